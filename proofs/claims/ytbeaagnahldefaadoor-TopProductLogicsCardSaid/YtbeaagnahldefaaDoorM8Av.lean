/- Leaving with marks; walk: relation.reversed. -/
import Derived.Test.YtbeaagnahldefaaDoorM8Au
import Derived.Test.YtbeaagnahldefaaDoorM8As
import Derived.Lib.SlicesCompact
import Derived.Test.YtbeaagnahldefaaDoorM8Ae
namespace Wt
open Go Go.RowKit Go.Maps Go.Proofs Fm
attribute [local go_sem] Oper.semAt_some

/-- The mark of a range over a function among the deferred calls. -/
def markD (D : Nat) : Deferred := { target := .collected D, args := #[] }
/-- The marks' blocks are shut, nothing else has changed. -/
structure ShutD (Ds : List Nat) (W W' : World) : Prop where
  os : W'.os = W.os
  tape : W'.tape = W.tape
  output : W'.output = W.output
  size : W'.heap.size = W.heap.size
  block : ∀ k, k ∉ Ds → W'.heap[k]? = W.heap[k]?
theorem leaves_marks {F : Fence} {n : Nat} {P : Program} {fn : Func} {tmps : Array Value} {R : Ending → World → Prop} : ∀ (Ds : List Nat) (W : World), Ds.Nodup → (∀ D ∈ Ds, W.heap[D]? = some (.deferred (some []))) →
    (∀ W', ShutD Ds W W' → LeavesIn F n P fn tmps R [] .returning W') → LeavesInM F n P fn tmps R (Ds.map markD) .returning W
  | [], W, _, _, h => h W ⟨rfl, rfl, rfl, rfl, fun _ _ => rfl⟩
  | D :: Ds, W, hn, hD, h => by
    rw [List.nodup_cons] at hn
    refine ⟨by simp, .inl ⟨D, _, rfl, run_takeDeferred (hD D (by simp)), ?_⟩⟩
    refine leaves_marks Ds _ hn.2 (fun E hE => ?_) fun W' hs => h W' ?_
    · have hne : E ≠ D := fun e => hn.1 (e ▸ hE)
      rw [World.putObj_heap_other hne]
      exact hD E (by simp [hE])
    · refine ⟨hs.os, hs.tape, hs.output, by rw [hs.size]; simp [World.putObj], fun k hk => ?_⟩
      rw [hs.block k (fun h => hk (by simp [h])), World.putObj_heap_other (fun e => hk (by simp [e]))]
theorem ShutD.ext {Ds : List Nat} {w W W' : World} (h : ShutD Ds W W') (e : Ext w W) (hD : ∀ D ∈ Ds, w.heap.size ≤ D) : Ext w W' :=
  ⟨h.os.trans e.os, h.tape.trans e.tape, h.output.trans e.output, by rw [h.size]; exact e.size, fun k hk => (h.block k (fun hm => by have := hD k hm; omega)).trans (e.block k hk)⟩
/-! The reversed relation as it is filled. -/
def rvB (r : List (BitVec 64)) (k : Nat) (l : List Nat) (w v : Nat) : Bool := (decide (w < k) && bt (nth r w) v) || (decide (w = k) && decide (v ∈ l))
def rvL (r : List (BitVec 64)) (k : Nat) (l : List Nat) : List (BitVec 64) := (List.range r.length).map fun v => setTo (fun w => rvB r k l w v) r.length
theorem rvL_len (r : List (BitVec 64)) (k : Nat) (l : List Nat) : (rvL r k l).length = r.length := by simp [rvL]
theorem rvL_nth (r : List (BitVec 64)) (k : Nat) (l : List Nat) {v : Nat} (hv : v < r.length) : nth (rvL r k l) v = setTo (fun w => rvB r k l w v) r.length := nth_mapX _ hv
theorem rvL_ext {r : List (BitVec 64)} {k k' : Nat} {l l' : List Nat} (h : ∀ w v, w < r.length → v < r.length → rvB r k l w v = rvB r k' l' w v) : rvL r k l = rvL r k' l' := by
  refine nth_ext (by rw [rvL_len, rvL_len]) fun v hv => ?_
  rw [rvL_len] at hv
  rw [rvL_nth _ _ _ hv, rvL_nth _ _ _ hv]
  refine bt_ext fun j hj => ?_
  rw [bt_setTo _ hj, bt_setTo _ hj]
  by_cases hjl : j < r.length
  · rw [h j v hjl hv]
  · simp [hjl]
theorem rvL_step {r : List (BitVec 64)} {k v : Nat} {l : List Nat} (_h64 : r.length ≤ 64) (hk : k < r.length) (hv : v < r.length) : (rvL r k l).set v (nth (rvL r k l) v ||| 1#64 <<< k) = rvL r k (l ++ [v]) := by
  refine nth_ext (by rw [List.length_set, rvL_len, rvL_len]) fun u hu => ?_
  rw [List.length_set, rvL_len] at hu
  rw [nth_eq _ _ (by rw [List.length_set, rvL_len]; exact hu), List.getElem_set]
  by_cases e : v = u
  · subst e
    rw [if_pos rfl, rvL_nth _ _ _ hv, rvL_nth _ _ _ hv]
    refine bt_ext fun j hj => ?_
    rw [bt_or, bt_setTo _ hj, bt_setTo _ hj, bt_shl1]
    by_cases hjk : j = k
    · subst hjk
      simp [rvB, hj, hk]
    · simp [rvB, hjk]
  · rw [if_neg e, ← nth_eq _ _ (by rw [rvL_len]; exact hu), rvL_nth _ _ _ hu, rvL_nth _ _ _ hu]
    refine bt_ext fun j hj => ?_
    rw [bt_setTo _ hj, bt_setTo _ hj]
    have e2 : ¬ u = v := fun h => e h.symm
    simp [rvB, e2]
theorem rvL_next {r : List (BitVec 64)} {k : Nat} (h64 : r.length ≤ 64) : rvL r k (memL (nth r k)) = rvL r (k + 1) [] := rvL_ext fun w v hw hv => by
  unfold rvB
  by_cases h1 : w < k
  · have e1 : ¬ w = k := by omega
    have e2 : w < k + 1 := by omega
    simp [h1, e1, e2]
  · by_cases h2 : w = k
    · subst h2
      have hm : decide (v ∈ memL (nth r w)) = bt (nth r w) v := by
        rw [Bool.eq_iff_iff, decide_eq_true_iff, mem_memL]
        exact ⟨fun h => h.2, fun h => ⟨by omega, h⟩⟩
      simp [hm]
    · have e2 : ¬ w < k + 1 := by omega
      simp [h1, h2, e2]
theorem rvL_end (r : List (BitVec 64)) : rvL r r.length [] = revL r := by
  refine nth_ext (by simp [rvL, revL]) fun v hv => ?_
  rw [rvL_len] at hv
  rw [rvL_nth _ _ _ hv]
  unfold revL
  rw [nth_mapX _ hv]
  refine bt_ext fun j hj => ?_
  rw [bt_setTo _ hj, bt_setTo _ hj]
  by_cases hjl : j < r.length
  · simp [rvB, hjl]
  · simp [hjl]
theorem rvL_zero (r : List (BitVec 64)) : rvL r 0 [] = List.replicate r.length 0#64 := by
  refine nth_ext (by simp [rvL]) fun v hv => ?_
  rw [rvL_len] at hv
  rw [rvL_nth _ _ _ hv]
  have e : nth (List.replicate r.length 0#64) v = 0#64 := by rw [nth_eq _ _ (by simpa using hv)]; simp
  rw [e]
  refine bt_ext fun j hj => ?_
  rw [bt_setTo _ hj, bt_zero]
  simp [rvB]
/-- Between two rounds of the outer loop. -/
structure RvO (w : World) (r : List (BitVec 64)) (k : Nat) (l : List Nat) (Ds : List Nat) (W : World) : Prop where
  e : Ext w W
  row : OG W w.heap.size 40 uv w.heap.size r.length r.length (rvL r k l)
  ob : Bx1 W (w.heap.size + 1) (.slice (some ⟨w.heap.size, 0, none⟩) r.length r.length)
  dn : Ds.Nodup
  dl : ∀ D ∈ Ds, w.heap.size + 2 ≤ D ∧ W.heap[D]? = some (.deferred (some []))
theorem Bx1.keep {W W' : World} {b : Nat} {v : Value} (h : Bx1 W b v) (e : W'.heap[b]? = W.heap[b]?) : Bx1 W' b v :=
  ⟨(World.cell?_of_block e).trans h.c, (World.frozen?_of_block e).trans h.f⟩
theorem RvO.ext {w W W' : World} {r : List (BitVec 64)} {k : Nat} {l : List Nat} {Ds : List Nat} (h : RvO w r k l Ds W) (e : Ext W W') : RvO w r k l Ds W' :=
  ⟨h.e.trans e, h.row.ext e, h.ob.ext e, h.dn, fun D hD => ⟨(h.dl D hD).1, by rw [e.block D (Array.getElem?_eq_some_iff.1 (h.dl D hD).2).1]; exact (h.dl D hD).2⟩⟩
theorem RvO.grown {w W W' : World} {r : List (BitVec 64)} {k B : Nat} {l : List Nat} {Ds : List Nat} {row : Option Nat} (h : RvO w r k l Ds W) (g : W.grownBy W' row) (hr : ∀ r, row = some r → B ≤ r) (hB : w.heap.size + 1 < B) (hD : ∀ D ∈ Ds, D < B) : RvO w r k l Ds W' := by
  refine ⟨Below.grown h.e g h.e.size (fun j e => by have := hr j e; omega), ⟨h.row.len, h.row.row.kept g ?_⟩, h.ob.keep (g.block _ h.ob.lt (fun e => by have := hr _ e.symm; omega)), h.dn, fun D hD' => ⟨(h.dl D hD').1, ?_⟩⟩
  · right
    intro e
    have := hr w.heap.size (by rw [← e]; rfl)
    omega
  · rw [g.block D (Array.getElem?_eq_some_iff.1 (h.dl D hD').2).1 (fun e => by have := hr _ e.symm; have := hD D hD'; omega)]
    exact (h.dl D hD').2
theorem RvO.put {w W : World} {r : List (BitVec 64)} {k v : Nat} {l : List Nat} {Ds : List Nat} (h : RvO w r k l Ds W) (h64 : r.length ≤ 64) (hk : k < r.length) (hv : v < r.length) :
    RvO w r k (l ++ [v]) Ds (W.setCell ⟨w.heap.size, v, none⟩ (.int .u64 (un (nth (rvL r k l) v ||| 1#64 <<< k)))) := by
  have h2 := h.row.set v (nth (rvL r k l) v ||| 1#64 <<< k)
  rw [rvL_step h64 hk hv] at h2
  exact ⟨h.e.setCell (Nat.le_refl _) _, h2, h.ob.keep (heap_setCell_other _ ⟨w.heap.size, v, none⟩ _ _ (by simp)), h.dn, fun D hD => ⟨(h.dl D hD).1, by
    rw [heap_setCell_other _ ⟨w.heap.size, v, none⟩ _ _ (by have := (h.dl D hD).1; simp; omega)]; exact (h.dl D hD).2⟩⟩
theorem RvO.setBox {w W : World} {r : List (BitVec 64)} {k b : Nat} {l : List Nat} {Ds : List Nat} (h : RvO w r k l Ds W) (hb : w.heap.size + 1 < b) (hD : ∀ D ∈ Ds, D ≠ b) (v : Value) : RvO w r k l Ds (W.setCell ⟨b, 0, none⟩ v) :=
  ⟨h.e.setCell (by simp; omega) _, h.row.other 0 v (by omega), h.ob.keep (heap_setCell_other _ ⟨b, 0, none⟩ _ _ (by simp; omega)), h.dn, fun D hD' => ⟨(h.dl D hD').1, by
    rw [heap_setCell_other _ ⟨b, 0, none⟩ _ _ (hD D hD')]; exact (h.dl D hD').2⟩⟩
/-- Between two rounds of the inner one. -/
def RvI (w : World) (r : List (BitVec 64)) (k bw : Nat) (Ds : List Nat) (j : Nat) (W : World) : Prop := RvO w r k ((memL (nth r k)).take j) Ds W ∧ Bx1 W bw (.int .i64 (k : Int))
theorem RvI.own {w : World} {r : List (BitVec 64)} {k bw B : Nat} {Ds : List Nat} (hB : w.heap.size + 1 < B) (hb : bw < B) (hD : ∀ D ∈ Ds, D < B) : OwnFrom B (RvI w r k bw Ds) :=
  fun _ _ _ _ hs hg hr => ⟨hs.1.grown hg (fun r e => (hr r e).1) hB hD, hs.2.keep (hg.block _ hs.2.lt (fun e => by have := (hr _ e.symm).1; omega))⟩
theorem take_snoc {α : Type} [Inhabited α] (l : List α) {j : Nat} (h : j < l.length) : l.take (j + 1) = l.take j ++ [nth l j] := by
  rw [nth_eq _ _ h, List.take_add_one, List.getElem?_eq_getElem h]; rfl
theorem RvI_take {w W : World} {r : List (BitVec 64)} {k : Nat} {l m : List Nat} {Ds : List Nat} (h : l = m) : RvO w r k l Ds W = RvO w r k m Ds W := by rw [h]
set_option maxRecDepth 20000 in
set_option maxHeartbeats 8000000 in
theorem reversed_any (r : List (BitVec 64)) (a : Option Addr) (c : Nat) (w : World) (hT : Tab w) (hr : RU w a r) (hck : relCheck r = 0) :
    Calls Tryd.prog 44 #[.slice a r.length c] w fun e w' => (∃ g cp, e = .returned (.slice (some ⟨g, 0, none⟩) r.length cp) ∧ RU w' (some ⟨g, 0, none⟩) (revL r)) ∧ Ext w w' := by
  obtain ⟨h64, hin⟩ := relCheck_ok hck
  refine (callsIn_wide (n := 9)).1 ?_
  refine callsIn_of_wp_marks Tryd.func44 rfl trivial ?_ rfl
  simp only [Tryd.ntmps44, List.size_toArray, List.length_cons, List.length_nil, Nat.reduceAdd, Nat.reduceSub, Array.replicate_succ, Array.replicate_zero, List.push_toArray, List.append_toArray, List.nil_append, List.cons_append]
  have mk1 := fun (w : World) => run_make_row' (P := Tryd.prog) 22 40 (.int .u64 0) 8 Tryd.underlying22 u64_info rfl .i64 .i64 r.length (by omega) (by omega) w
  gi_wp2
  have hE2 : Ext w ((w.alloc (.cells (madeCells #[.int .u64 0] r.length) 40)).alloc (.cells #[.slice (some ⟨w.heap.size, 0, none⟩) r.length r.length] 22)) := ((Ext.refl w).alloc _).alloc _
  have hO : RvO w r 0 [] [] ((w.alloc (.cells (madeCells #[.int .u64 0] r.length) 40)).alloc (.cells #[.slice (some ⟨w.heap.size, 0, none⟩) r.length r.length] 22)) := by
    refine ⟨hE2, ?_, (Bx1.new (w.alloc (.cells (madeCells #[.int .u64 0] r.length) 40)) _ _).at (by simp), List.nodup_nil, fun D hD => by cases hD⟩
    rw [rvL_zero]
    exact (OG.made (enc := uv) w r.length 0#64 (Nat.le_refl _) (by omega)).ext ((Ext.refl _).alloc _)
  clear hE2 mk1
  generalize (w.alloc (.cells (madeCells #[.int .u64 0] r.length) 40)).alloc (.cells #[.slice (some ⟨w.heap.size, 0, none⟩) r.length r.length] 22) = w2 at *
  have HT := Lib.hid hT
  have HR := Lib.hid hr
  have HIN := Lib.hid hin
  clear hT hr hin
  refine wpIn_loop (fun ac W => ∃ (k : Nat) (Ds : List Nat) (u4 u5 u6 u13 u14 u15 u16 u17 u18 u19 u20 u21 u22 u23 u24 u25 u26 u27 u28 : Value), ac = { tmps := #[.slice a r.length c, undef, .slice none 0 0, .pointer (some ⟨w.heap.size + 1, 0, none⟩), u4, u5, u6, .slice a r.length c, .int .i64 (r.length : Int), .slice (some ⟨w.heap.size, 0, none⟩) r.length r.length, .slice a r.length c, .int .i64 (r.length : Int), .int .i64 (k : Int), u13, u14, u15, u16, u17, u18, u19, u20, u21, u22, u23, u24, u25, u26, u27, u28, undef], defers := Ds.map markD } ∧ k ≤ r.length ∧ Hid (RvO w r k [] Ds W)) (fun ac _ => r.length - (RowKit.intOf (ac.tmps.getD 12 undef)).toNat) ?start ?round
  case start => exact ⟨0, [], _, _, _, _, _, _, _, _, _, _, _, _, _, _, _, _, _, _, _, rfl, Nat.zero_le _, Lib.hid hO⟩
  case round =>
    clear hO
    rintro _ W ⟨k, Ds, u4, u5, u6, u13, u14, u15, u16, u17, u18, u19, u20, u21, u22, u23, u24, u25, u26, u27, u28, rfl, hk, HO⟩
    by_cases hkl : k < r.length
    · obtain ⟨b1, o1, ha, hb1, hc1⟩ := (HR.out.ext HO.out.e).get hkl
      subst ha
      gi_wp2_with (refine ⟨trivial, ?_⟩; gi_at_call 46; refine (callsIn_wide.2 (points_any (nth r k) _)).mono ?_; rintro _ _ ⟨rfl, rfl⟩)
      have hsW : W.heap.size + 1 + 1 ≤ ((W.alloc (.cells #[.int .i64 (k : Int)] 3)).alloc (.cells #[.int .u64 (un (nth r k))] 40)).heap.size := by simp
      have hEW : Ext W ((W.alloc (.cells #[.int .i64 (k : Int)] 3)).alloc (.cells #[.int .u64 (un (nth r k))] 40)) := ((Ext.refl W).alloc _).alloc _
      have bw := (Bx1.new W (.int .i64 (k : Int)) 3).ext ((Ext.refl _).alloc (.cells #[.int .u64 (un (nth r k))] 40))
      have bi := (Bx1.new (W.alloc (.cells #[.int .i64 (k : Int)] 3)) (.int .u64 (un (nth r k))) 40).at (b' := W.heap.size + 1) (by simp)
      have hI0 : RvI w r k W.heap.size Ds 0 ((W.alloc (.cells #[.int .i64 (k : Int)] 3)).alloc (.cells #[.int .u64 (un (nth r k))] 40)) := ⟨HO.out.ext hEW, bw⟩
      have hgW := HO.out.ob.lt
      have HDl : Hid (∀ D ∈ Ds, D < W.heap.size) := Lib.hid fun D hD => (Array.getElem?_eq_some_iff.1 (HO.out.dl D hD).2).1
      have hc3 : ((W.alloc (.cells #[.int .i64 (k : Int)] 3)).alloc (.cells #[.int .u64 (un (nth r k))] 40)).cell? ⟨W.heap.size + 1, 0, none⟩ = some (ptsSt (nth r k) 0) := bi.c
      have hf3 := bi.f
      clear bw bi hEW
      generalize (W.alloc (.cells #[.int .i64 (k : Int)] 3)).alloc (.cells #[.int .u64 (un (nth r k))] 40) = W3 at *
      refine wpIn_rangeFunc_pts rfl (by decide) (gf := 83) (b := W.heap.size + 1) rfl trivial (enters_of Tryd.func83 (by kernel_rfl) rfl) (points1_pts _ (by decide) _ (nth r k)) rfl hc3 hf3
        (RvI w r k W.heap.size Ds) (RvI.own (by omega) (by omega) (fun D hD => by have := HDl.out D hD; omega)) (fun j A v h => ⟨h.1.setBox (by omega) (fun D hD => by have := HDl.out D hD; omega) v, h.2.keep (heap_setCell_other _ ⟨W.heap.size + 1, 0, none⟩ _ _ (by simp))⟩) (fun j A h => ⟨h.1.ext (Ext.refl _).drew, h.2.ext (Ext.refl _).drew⟩) (fun j A h => HT.out.ext h.1.e) hI0
        (fun x => { tmps := #[.slice (some ⟨b1, o1, none⟩) r.length c, undef, .slice none 0 0, .pointer (some ⟨w.heap.size + 1, 0, none⟩), .pointer (some ⟨W.heap.size, 0, none⟩), .int .u64 (un (nth r k)), .int .i64 ((x : Nat) : Int), .slice (some ⟨b1, o1, none⟩) r.length c, .int .i64 (r.length : Int), .slice (some ⟨w.heap.size, 0, none⟩) r.length r.length, .slice (some ⟨b1, o1, none⟩) r.length c, .int .i64 (r.length : Int), .int .i64 (k : Int), .bool true, .int .i64 (k : Int), .pointer (some ⟨b1, o1 + k, none⟩), .int .u64 (un (nth r k)), .int .u64 (un (nth r k)), .func (.func 83) #[] #[.pointer (some ⟨W.heap.size + 1, 0, none⟩)], .int .i64 ((x : Nat) : Int), u20, u21, u22, u23, u24, u25, u26, u27, u28, undef], defers := [] }) ?assign ?body ?done
      case assign =>
        intro l j A K hK
        gi_wp2
        exact hK
      case body =>
        intro l j A hj hI
        have HII := Lib.hid hI
        have hv := memL_ltN (HIN.out k hkl) hj
        have hoc := hI.1.ob.c
        have hol := hI.1.ob.lt
        have hwc := hI.2.c
        have hwl := hI.2.lt
        have hrc := hI.1.row.cell hv
        have hrf := hI.1.row.frozen (nth (memL (nth r k)) j)
        have hrl := hI.1.row.lt
        have hk64 : k < 64 := by omega
        have HPP := Lib.hid (hI.1.put h64 hkl hv)
        have HTK := Lib.hid (take_snoc (memL (nth r k)) hj)
        clear hI
        change A.cell? ⟨w.heap.size, nth (memL (nth r k)) j, none⟩ = some (.int .u64 (un (nth (rvL r k ((memL (nth r k)).take j)) (nth (memL (nth r k)) j)))) at hrc
        have hmx : Tryd.prog.follows .mixedOrders = true := by kernel_rfl
        generalize nth (rvL r k ((memL (nth r k)).take j)) (nth (memL (nth r k)) j) = X at *
        gi_wp2
        gi_region_with_o (fail)
        all_goals gi_wp2
        all_goals (try go_bits)
        all_goals exact ⟨(KeepsOthers.setCell _ _ _).trans (KeepsOthers.drew _), ⟨(by rw [RvI_take HTK.out]; exact HPP.out.ext (Ext.refl _).drew), HII.out.2.keep (heap_setCell_other _ ⟨w.heap.size, _, none⟩ _ _ (by simp; omega))⟩, World.cell?_setCell_other _ _ _ _ (by first | (simp; done) | (simp; omega)), by rw [frozen_drew_own, World.frozen?_setCell]⟩
      case done =>
        intro D W4 hD hI hK
        have hO4 : RvO w r (k + 1) [] (D :: Ds) W4 := by
          have h := hI.1
          rw [List.take_length] at h
          exact ⟨h.e, by have h2 := h.row; rw [rvL_next h64] at h2; exact h2, h.ob, List.nodup_cons.2 ⟨fun hm => by have := HDl.out D hm; omega, h.dn⟩, fun E hE => by
            rcases List.mem_cons.1 hE with rfl | hE
            · exact ⟨by omega, hK⟩
            · exact h.dl E hE⟩
        have HO4 := Lib.hid hO4
        clear hI hK hO4
        gi_wp2
        refine ⟨⟨k + 1, D :: Ds, _, _, _, _, _, _, _, _, _, _, _, _, _, _, _, _, _, _, _, rfl, hkl, HO4⟩, ?_⟩
        simp [RowKit.intOf]
        omega
    · obtain rfl : k = r.length := by omega
      have hO := HO.out
      obtain ⟨o0, -⟩ := hO.ob
      have ol := hO.ob.lt
      have HO2 := Lib.hid hO
      clear hO
      gi_wp2
      refine leaves_marks Ds W HO2.out.dn (fun D hD => (HO2.out.dl D hD).2) fun W' hs => ?_
      refine ⟨_, results_tmp rfl _ _ _, ?_⟩
      refine ⟨⟨w.heap.size, r.length, rfl, ?_⟩, hs.ext HO2.out.e fun D hD => by have := (HO2.out.dl D hD).1; omega⟩
      have hrow := HO2.out.row
      rw [rvL_end] at hrow
      have hu := RU_of_OG hrow (by omega)
      refine ⟨hu.len, fun k hk => ⟨w.heap.size, 0, rfl, ?_⟩⟩
      rw [World.cell?_of_block (w := W) (a := ⟨w.heap.size, 0 + k, none⟩) (hs.block _ fun hm => by have := (HO2.out.dl _ hm).1; dsimp only at this; omega)]
      obtain ⟨b, o, e, hc⟩ := hu.at_ k hk
      simp only [Option.some.injEq, Addr.mk.injEq] at e
      obtain ⟨rfl, rfl, -⟩ := e
      exact hc
end Wt

/- Plain: the classes sorted and compacted are their lowest worlds in order. -/
namespace Wt
open Go Go.RowKit Go.Proofs Fm

theorem strict_eq : ∀ {a b : List Int}, a.Pairwise (· < ·) → b.Pairwise (· < ·) → (∀ x, x ∈ a ↔ x ∈ b) → a = b
  | [], [], _, _, _ => rfl
  | [], y :: b, _, _, h => by have := (h y).2 (by simp); simp at this
  | x :: a, [], _, _, h => by have := (h x).1 (by simp); simp at this
  | x :: a, y :: b, ha, hb, h => by
    rw [List.pairwise_cons] at ha hb
    have hxy : x = y := by
      rcases List.mem_cons.1 ((h x).1 (by simp)) with e | hx
      · exact e
      · rcases List.mem_cons.1 ((h y).2 (by simp)) with e | hy
        · exact e.symm
        · have h1 := ha.1 y hy
          have h2 := hb.1 x hx
          omega
    subst hxy
    congr 1
    refine strict_eq ha.2 hb.2 fun z => ?_
    constructor
    · intro hz
      rcases List.mem_cons.1 ((h z).1 (by simp [hz])) with e | h3
      · have := ha.1 z hz; omega
      · exact h3
    · intro hz
      rcases List.mem_cons.1 ((h z).2 (by simp [hz])) with e | h3
      · have := hb.1 z hz; omega
      · exact h3
theorem compact_sorted {d : Array Int} (hs : ∀ i j, i ≤ j → j < d.size → d[i]! ≤ d[j]!) : ∀ m, m ≤ d.size → (Lib.compactUpTo d m).Pairwise (· < ·) ∧ ∀ x, x ∈ Lib.compactUpTo d m ↔ ∃ j, j < m ∧ d[j]! = x
  | 0, _ => by simp [Lib.compactUpTo]
  | m + 1, hm => by
    obtain ⟨h1, h2⟩ := compact_sorted hs m (by omega)
    rw [Lib.compactUpTo_succ]
    have hk : Lib.keeps d m = true ↔ m = 0 ∨ d[m]! ≠ d[m - 1]! := by simp [Lib.keeps]
    by_cases hkm : Lib.keeps d m = true
    · rw [if_pos hkm]
      refine ⟨List.pairwise_append.2 ⟨h1, by simp, fun x hx y hy => ?_⟩, fun x => ?_⟩
      · obtain ⟨j, hj, rfl⟩ := (h2 x).1 hx
        obtain rfl : y = d[m]! := by simpa using hy
        have a1 := hs j (m - 1) (by omega) (by omega)
        have a2 := hs (m - 1) m (by omega) (by omega)
        rcases hk.1 hkm with h | h
        · omega
        · omega
      · rw [List.mem_append, h2, List.mem_singleton]
        constructor
        · rintro (⟨j, hj, e⟩ | e)
          · exact ⟨j, by omega, e⟩
          · exact ⟨m, by omega, e.symm⟩
        · rintro ⟨j, hj, e⟩
          by_cases hjm : j = m
          · subst hjm; exact .inr e.symm
          · exact .inl ⟨j, by omega, e⟩
    · rw [if_neg hkm, List.append_nil]
      refine ⟨h1, fun x => ?_⟩
      rw [h2]
      have hn : ¬ (m = 0 ∨ d[m]! ≠ d[m - 1]!) := fun h => hkm (hk.2 h)
      have hm0 : m ≠ 0 := fun h => hn (.inl h)
      have he : d[m]! = d[m - 1]! := Decidable.not_not.1 fun h => hn (.inr h)
      constructor
      · rintro ⟨j, hj, e⟩; exact ⟨j, by omega, e⟩
      · rintro ⟨j, hj, e⟩
        by_cases hjm : j = m
        · subst hjm; exact ⟨j - 1, by omega, he.symm.trans e⟩
        · exact ⟨j, by omega, e⟩
/-- The classes sorted and compacted. -/
theorem compact_low (L : List (BitVec 64)) (N : Nat) : Lib.compact ((natI (lowL L N)).mergeSort fun x y => decide (x ≤ y)) = natI (repL L N) := by
  have hp := List.mergeSort_perm (natI (lowL L N)) fun x y => decide (x ≤ y)
  have hs := List.pairwise_mergeSort (le := fun x y : Int => decide (x ≤ y)) (fun a b c h1 h2 => by simp at h1 h2 ⊢; omega) (fun a b => by simp; omega) (natI (lowL L N))
  generalize (natI (lowL L N)).mergeSort (fun x y => decide (x ≤ y)) = zs at *
  have hsort : ∀ i j, i ≤ j → j < zs.toArray.size → zs.toArray[i]! ≤ zs.toArray[j]! := by
    intro i j hij hj
    have hjl : j < zs.length := by simpa using hj
    rw [List.pairwise_iff_getElem] at hs
    by_cases e : i = j
    · subst e; exact Int.le_refl _
    · have := hs i j (by omega) hjl (by omega)
      have hi2 : i < zs.toArray.size := by simp; omega
      rw [getElem!_pos zs.toArray i hi2, getElem!_pos zs.toArray j hj]
      simpa using this
  obtain ⟨h1, h2⟩ := compact_sorted hsort zs.length (by simp)
  refine strict_eq h1 ?_ fun x => ?_
  · unfold natI
    exact List.pairwise_map.2 ((repL_pair L N).imp fun h => by omega)
  · have h3 : x ∈ zs ↔ ∃ j, j < zs.length ∧ zs.toArray[j]! = x := by
      constructor
      · intro hx
        obtain ⟨j, hj, e⟩ := List.getElem_of_mem hx
        exact ⟨j, hj, by rw [getElem!_pos zs.toArray j (by simpa using hj)]; simpa using e⟩
      · rintro ⟨j, hj, e⟩
        rw [getElem!_pos zs.toArray j (by simpa using hj)] at e
        rw [← e]; simp
    unfold Lib.compact
    rw [h2, ← h3, hp.mem_iff]
    unfold natI lowL
    simp only [List.mem_map, List.mem_range]
    constructor
    · rintro ⟨v, ⟨w, hw, rfl⟩, rfl⟩
      exact ⟨_, repL_low L hw, rfl⟩
    · rintro ⟨v, hv, rfl⟩
      obtain ⟨a, b⟩ := repL_mem.1 hv
      exact ⟨v, ⟨v, a, b⟩, rfl⟩
end Wt

/- Plain: how the reference gathers the smallest filtration, step by step. -/
namespace Wt
open Go Go.RowKit Go.Proofs Fm

section
variable (M : Mo) (L : List (BitVec 64)) (N a : Nat)
/-- Has a step from class c to class d been seen, up to the worlds w and v? -/
def stepB (w v c d : Nat) : Bool := ((List.range w).any fun x => (List.range N).any fun y => clsOf L N x == c && clsOf L N y == d && bt (nth (nth M.rel a) x) y) || (List.range v).any fun y => clsOf L N w == c && clsOf L N y == d && bt (nth (nth M.rel a) w) y
def smP (w v : Nat) : List (BitVec 64) := (List.range (repL L N).length).map fun c => setTo (fun d => stepB M L N a w v c d) (repL L N).length
theorem smP_len (w v : Nat) : (smP M L N a w v).length = (repL L N).length := by simp [smP]
theorem smP_bit {w v c d : Nat} (_h64 : N ≤ 64) (hc : c < (repL L N).length) (hd : d < 64) : bt (nth (smP M L N a w v) c) d = (decide (d < (repL L N).length) && stepB M L N a w v c d) := by
  unfold smP
  rw [nth_mapX _ hc, bt_setTo _ hd]
theorem smP_zero : smP M L N a 0 0 = List.replicate (repL L N).length 0#64 := by
  refine nth_ext (by simp [smP]) fun c hc => ?_
  rw [smP_len] at hc
  refine bt_ext fun d hd => ?_
  unfold smP
  rw [nth_mapX _ hc, bt_setTo _ hd, nth_eq _ _ (by simpa using hc)]
  simp [stepB, bt_zero]
theorem stepB_end (w c d : Nat) : stepB M L N a w N c d = stepB M L N a (w + 1) 0 c d := by
  unfold stepB
  rw [List.range_succ, List.any_append]
  simp
theorem smP_row (w : Nat) : smP M L N a w N = smP M L N a (w + 1) 0 := by
  unfold smP
  simp only [stepB_end]
theorem stepB_step {w v c d : Nat} : stepB M L N a w (v + 1) c d = (stepB M L N a w v c d || (clsOf L N w == c && clsOf L N v == d && bt (nth (nth M.rel a) w) v)) := by
  unfold stepB
  rw [List.range_succ, List.any_append, ← Bool.or_assoc]
  simp
theorem smP_no {w v : Nat} (h : bt (nth (nth M.rel a) w) v = false) : smP M L N a w (v + 1) = smP M L N a w v := by
  unfold smP
  simp only [stepB_step, h, Bool.and_false, Bool.or_false]
theorem smP_yes {w v : Nat} (h64 : N ≤ 64) (hw : w < N) (hv : v < N) (h : bt (nth (nth M.rel a) w) v = true) : smP M L N a w (v + 1) = (smP M L N a w v).set (clsOf L N w) (nth (smP M L N a w v) (clsOf L N w) ||| 1#64 <<< clsOf L N v) := by
  have hK := repL_len L N
  have hcw := clsOf_lt L hw
  have hcv := clsOf_lt L hv
  refine nth_ext (by simp [smP]) fun c hc => ?_
  rw [smP_len] at hc
  have hset : nth ((smP M L N a w v).set (clsOf L N w) (nth (smP M L N a w v) (clsOf L N w) ||| 1#64 <<< clsOf L N v)) c = if c = clsOf L N w then nth (smP M L N a w v) (clsOf L N w) ||| 1#64 <<< clsOf L N v else nth (smP M L N a w v) c := by
    rw [nth_eq _ _ (by rw [List.length_set, smP_len]; exact hc), List.getElem_set]
    by_cases e : clsOf L N w = c
    · rw [if_pos e, if_pos e.symm]
    · rw [if_neg e, if_neg (fun h => e h.symm)]
      exact (nth_eq _ _ (by rw [smP_len]; exact hc)).symm
  rw [hset]
  refine bt_ext fun d hd => ?_
  rw [smP_bit M L N a h64 hc hd, stepB_step, h]
  by_cases e : c = clsOf L N w
  · subst e
    rw [if_pos rfl, bt_or, smP_bit M L N a h64 hcw hd, bt_shl1]
    by_cases e2 : d = clsOf L N v
    · subst e2; simp [hd, hcv]
    · have : (clsOf L N v == d) = false := by simp; exact fun h => e2 h.symm
      simp [e2, this]
  · rw [if_neg e, smP_bit M L N a h64 hc hd]
    have : (clsOf L N w == c) = false := by simp; exact fun h => e h.symm
    simp [this]
theorem smP_done (h64 : N ≤ 64) : smP M L N a N 0 = (repL L N).map fun x => setTo (fun d => relS M L N a x (nth (repL L N) d)) (repL L N).length := by
  refine nth_ext (by simp [smP]) fun c hc => ?_
  rw [smP_len] at hc
  have hK := repL_len L N
  refine bt_ext fun d hd => ?_
  rw [smP_bit M L N a h64 hc hd, nth_mapN _ _ hc, bt_setTo _ hd]
  by_cases hdK : d < (repL L N).length
  · simp only [hdK, decide_true, Bool.true_and]
    rw [Bool.eq_iff_iff, relS_iff]
    unfold stepB
    simp only [List.range_zero, List.any_nil, Bool.or_false, List.any_eq_true, List.mem_range, Bool.and_eq_true, beq_iff_eq]
    constructor
    · rintro ⟨x, hx, y, hy, ⟨h1, h2⟩, h3⟩
      exact ⟨x, y, hx, hy, by rw [← clsOf_nth L hx, h1], by rw [← clsOf_nth L hy, h2], h3⟩
    · rintro ⟨x, y, hx, hy, h1, h2, h3⟩
      refine ⟨x, hx, y, hy, ⟨?_, ?_⟩, h3⟩
      · have : clsOf L N x = clsOf L N (nth (repL L N) c) := by unfold clsOf; rw [h1, rep_low hc]
        rw [this, clsOf_rep hc]
      · have : clsOf L N y = clsOf L N (nth (repL L N) d) := by unfold clsOf; rw [h2, rep_low hdK]
        rw [this, clsOf_rep hdK]
  · simp [hdK]
end
end Wt

/- Walks: what a view says of a node in a world, and whether it permits a step. -/
namespace Wt
open Go Go.RowKit Go.Maps Go.Proofs Fm

/-- The cells of a view. -/
structure VwAt (w : World) (b : Nat) (W : Int) (va ra ca sa : Option Addr) (vl vc rl rc cl cc sl sc : Nat) : Prop where
  c0 : w.cell? ⟨b, 0, none⟩ = some (.int .i64 W)
  c1 : w.cell? ⟨b, 1, none⟩ = some (.slice va vl vc)
  c2 : w.cell? ⟨b, 2, none⟩ = some (.slice ra rl rc)
  c3 : w.cell? ⟨b, 3, none⟩ = some (.slice ca cl cc)
  c4 : w.cell? ⟨b, 4, none⟩ = some (.slice sa sl sc)
theorem VwAt.ext {w w' : World} {b : Nat} {W : Int} {va ra ca sa : Option Addr} {vl vc rl rc cl cc sl sc : Nat} (h : VwAt w b W va ra ca sa vl vc rl rc cl cc sl sc) (e : Ext w w') : VwAt w' b W va ra ca sa vl vc rl rc cl cc sl sc :=
  ⟨e.cell h.c0, e.cell h.c1, e.cell h.c2, e.cell h.c3, e.cell h.c4⟩
theorem VwAt.new (w : World) (W : Int) (va ra ca sa : Option Addr) (vl vc rl rc cl cc sl sc T : Nat) : VwAt (w.alloc (.cells #[.int .i64 W, .slice va vl vc, .slice ra rl rc, .slice ca cl cc, .slice sa sl sc] T)) w.heap.size W va ra ca sa vl vc rl rc cl cc sl sc :=
  ⟨by simp, by simp, by simp, by simp, by simp⟩
theorem bit_un (s : BitVec 64) (k : Nat) : un (s >>> k &&& 1#64) = b01I (bt s k) := by
  have h : s >>> k &&& 1#64 = if bt s k then 1#64 else 0#64 := by
    refine bt_ext fun j hj => ?_
    rw [bt_and]
    have h1 : bt 1#64 j = decide (j = 0) := by
      have := bt_shl1 (k := j) 0
      rw [show (1#64 <<< 0) = 1#64 by simp] at this
      rw [this]; simp [hj]
    have h2 : bt (s >>> k) j = bt s (k + j) := by unfold bt; rw [BitVec.getLsbD_ushiftRight]
    rw [h1, h2]
    by_cases e : j = 0
    · subst e
      cases hb : bt s k
      · simp [bt_zero]
      · simp [h1]
    · cases hb : bt s k
      · simp [e, bt_zero]
      · simp [e, h1]
  rw [h]
  cases bt s k <;> rfl
set_option maxRecDepth 20000 in
set_option maxHeartbeats 2000000 in
theorem fholds_any (b : Nat) (W : Int) (L : List (BitVec 64)) (va ra ca sa : Option Addr) (vl vc rl rc cl cc sc : Nat) (w : World) (hv : VwAt w b W va ra ca sa vl vc rl rc cl cc L.length sc) (hs : RU w sa L) (i k : Nat) (hi : i < L.length) (_hk : k < 64) :
    Calls Tryd.prog 76 #[.pointer (some ⟨b, 0, none⟩), .int .i64 (i : Int), .int .i64 (k : Int)] w fun e w' => e = .returned (.bool (bt (nth L i) k)) ∧ w = w' := by
  obtain ⟨v0, v1, v2, v3, v4⟩ := hv
  have vlt := World.block_lt_of_cell? _ _ v0
  have hll := hs.len
  obtain ⟨b1, o1, rfl, hb1, hc1⟩ := hs.get hi
  have hu := bit_un (nth L i) k
  dsimp only at vlt
  clear hs
  cases hb : bt (nth L i) k
  all_goals
    rw [hb] at hu
    simp only [b01I, if_true, if_false, Bool.false_eq_true] at hu
    go_enter Tryd.func76, Tryd.ntmps76
    go_wp2_with fail
    go_ret
    exact ⟨rfl, rfl⟩
/-- Which nodes a view's list may hold. -/
def boxOk (c : List Nd) : Prop := ∀ k, k < c.length → (nth c k).op = 9 ∨ (nth c k).op = 10 → (nth c k).x.toNat < c.length ∧ 0 ≤ (nth c k).x
theorem perN_all {L : List (BitVec 64)} {c : List Nd} {keep : Bool} {a x y k : Nat} (h : ((List.range k).all fun i => perN L (nth c i) i a x y keep) = true) (h2 : perN L (nth c k) k a x y keep = true) : ((List.range (k + 1)).all fun i => perN L (nth c i) i a x y keep) = true := by
  rw [List.range_succ, List.all_append, h]
  simp [h2]
theorem permL_no {L : List (BitVec 64)} {c : List Nd} {keep : Bool} {a x y k : Nat} (hk : k < c.length) (h2 : perN L (nth c k) k a x y keep = false) : permL L c keep a x y = false := by
  cases h : permL L c keep a x y
  · rfl
  · unfold permL at h
    rw [List.all_eq_true] at h
    have := h k (List.mem_range.2 hk)
    rw [h2] at this; cases this
end Wt

/- Walks: relation.Has at seriality, reflexivity and symmetry (printed by gen_has.py). -/
namespace Wt
open Go Go.RowKit Go.Maps Go.Proofs Fm

theorem has3_eq {r : List (BitVec 64)} (h : relCheck r = 0) : hasB r 3 = decide (r = revL r) := by unfold hasB; rw [h]; rfl
theorem any_len {α : Type} [Inhabited α] {l : List α} {p : α → Bool} (h : ∀ j, j < l.length → p (nth l j) = false) : l.any p = false := any_no h
set_option maxHeartbeats 1000000 in
theorem indexU_any (l : List (BitVec 64)) (x : BitVec 64) (a : Option Addr) (c : Nat) (w : World) (hu : RU w a l) :
    Calls Tryd.prog 82 #[.slice a l.length c, .int .u64 (un x)] w fun e w' => (∃ i : Int, e = .returned (.int .i64 i) ∧ decide (0 ≤ i) = l.any fun s => s == x) ∧ Ext w w' := by
  have hl := hu.len
  have HU := Lib.hid hu
  clear hu
  go_enter Tryd.func82, Tryd.ntmps82
  go_wp2
  go_loopw [8] (fun i wr => ∃ k : Nat, k ≤ l.length ∧ i = .int .i64 k ∧ Hid (Ext w wr) ∧ Hid (∀ j, j < k → (nth l j == x) = false)) (fun i _ => l.length - (RowKit.intOf i).toNat)
  case atStart => exact ⟨0, Nat.zero_le _, rfl, Lib.hid (Ext.refl _), Lib.hid fun _ h => absurd h (Nat.not_lt_zero _)⟩
  case round =>
    obtain ⟨k, hk, rfl, HX, HNO⟩ := hrel
    by_cases hlt : k < l.length
    · obtain ⟨b, off, rfl, hb, hc⟩ := (HU.out.ext HX.out).get hlt
      by_cases he : nth l k = x
      · have hq : (un x == un (nth l k)) = true := by rw [he]; simp
        have HE : Hid ((nth l k == x) = true) := Lib.hid (by rw [he]; simp)
        clear he
        go_wp2_with fail
        go_ret
        exact ⟨⟨k, rfl, by rw [any_yes hlt HE.out]; simp⟩, HX.out⟩
      · have hq : (un x == un (nth l k)) = false := by
          have h2 : un x ≠ un (nth l k) := fun h => he (un_inj.1 h).symm
          simpa using h2
        have HE : Hid ((nth l k == x) = false) := Lib.hid (by simpa using he)
        clear he
        go_wp2_with fail
        go_roundw
        case rel => exact ⟨k + 1, hlt, by go_num, HX, Lib.hid (lt_step HNO.out HE.out)⟩
        case measure => simp [RowKit.intOf]; omega
    · go_wp2_with fail
      go_ret
      exact ⟨⟨-1, rfl, by rw [any_no (fun j hj => HNO.out j (by omega))]; rfl⟩, HX.out⟩
theorem containsU_any (l : List (BitVec 64)) (x : BitVec 64) (a : Option Addr) (c : Nat) (w : World) (hu : RU w a l) :
    Calls Tryd.prog 42 #[.slice a l.length c, .int .u64 (un x)] w fun e w' => e = .returned (.bool (l.any fun s => s == x)) ∧ Ext w w' := by
  have H := Lib.hid (indexU_any l x a c w hu)
  clear hu
  go_enter Tryd.func42, Tryd.ntmps42
  go_wp2_with (go_at_call 82; refine H.out.mono ?_; rintro e w1 ⟨⟨i, rfl, hi⟩, hE⟩; have HI := Lib.hid hi; clear hi)
  go_ret
  exact ⟨by rw [← HI.out]; simp, hE⟩
set_option maxRecDepth 20000 in
set_option maxHeartbeats 1000000 in
theorem equalU_any (l m : List (BitVec 64)) (a b : Option Addr) (c d n : Nat) (w : World) (hl : l.length = n) (hm : m.length = n) (h1 : RU w a l) (h2 : RU w b m) :
    Calls Tryd.prog 43 #[.slice a n c, .slice b n d] w fun e w' => e = .returned (.bool (decide (l = m))) ∧ Ext w w' := by
  have H1 := Lib.hid h1
  have H2 := Lib.hid h2
  have HL := Lib.hid hl
  have HMl := Lib.hid hm
  have hln := h1.len
  rw [hl] at hln
  clear h1 h2 hl hm
  have hnn : ((n : Int) != (n : Int)) = false := by simp
  go_enter Tryd.func43, Tryd.ntmps43
  go_wp2
  go_loopw [13] (fun i wr => ∃ k : Nat, k ≤ n ∧ i = .int .i64 (k : Int) ∧ Hid (Ext w wr) ∧ Hid (∀ j, j < k → nth l j = nth m j)) (fun i _ => n - (RowKit.intOf i).toNat)
  case atStart => exact ⟨0, Nat.zero_le _, rfl, Lib.hid (Ext.refl _), Lib.hid fun _ h => absurd h (Nat.not_lt_zero _)⟩
  case round =>
    obtain ⟨k, hk, rfl, HX, HEQ⟩ := hrel
    by_cases hlt : k < n
    · obtain ⟨b1, o1, ha, hb1, hc1⟩ := (H1.out.ext HX.out).get (k := k) (by rw [HL.out]; exact hlt)
      obtain ⟨b2, o2, hb, hb2, hc2⟩ := (H2.out.ext HX.out).get (k := k) (by rw [HMl.out]; exact hlt)
      subst ha
      subst hb
      by_cases he : nth l k = nth m k
      · have hne : (un (nth l k) != un (nth m k)) = false := by rw [he]; simp
        have HE := Lib.hid he
        clear he
        go_wp2_with fail
        go_quiet (fail)
        go_wp2_with fail
        go_roundw
        case rel => exact ⟨k + 1, hlt, by go_num, Lib.hid (HX.out.drewN _), Lib.hid (lt_step HEQ.out HE.out)⟩
        case measure => simp [RowKit.intOf]; omega
      · have hne : (un (nth l k) != un (nth m k)) = true := by
          have h3 : un (nth l k) ≠ un (nth m k) := fun h => he (un_inj.1 h)
          simpa using h3
        have HD : Hid (decide (l = m) = false) := Lib.hid (decide_eq_false fun h => he (by rw [h]))
        clear he
        go_wp2_with fail
        go_quiet (fail)
        go_wp2_with fail
        go_ret
        exact ⟨by rw [HD.out]; rfl, HX.out.drewN _⟩
    · have HD : Hid (decide (l = m) = true) := Lib.hid (decide_eq_true (nth_ext (by rw [HL.out, HMl.out]) fun j hj => HEQ.out j (by rw [HL.out] at hj; omega)))
      go_wp2_with fail
      go_ret
      exact ⟨by rw [HD.out]; rfl, HX.out⟩
theorem ser_any (r : List (BitVec 64)) : (!r.any fun s => s == 0#64) = serB r := by
  unfold serB
  induction r with
  | nil => rfl
  | cons x l ih => simp only [List.any_cons, List.all_cons, Bool.not_or, ih]; rfl
set_option maxRecDepth 20000 in
set_option maxHeartbeats 4000000 in
theorem has1_any (r : List (BitVec 64)) (a : Option Addr) (c : Nat) (w : World) (hT : Tab w) (hr : RU w a r) :
    Calls Tryd.prog 14 #[.slice a r.length c, .int .i64 1] w fun e w' => e = .returned (.bool (hasB r 1)) ∧ Ext w w' := by
  have hE0 : Ext w ((w.alloc (.cells #[.slice a r.length c] 22)).alloc (.cells #[.bool false] 4)) := ((Ext.refl w).alloc _).alloc _
  have b0 := (Bx1.new w (.slice a r.length c) 22).ext ((Ext.refl _).alloc (.cells #[.bool false] 4))
  have b1 := (Bx1.new (w.alloc (.cells #[.slice a r.length c] 22)) (.bool false) 4).at (b' := w.heap.size + 1) (by simp)
  have HE := Lib.hid hE0
  have HT := Lib.hid (hT.ext hE0)
  have HR := Lib.hid (hr.ext hE0)
  have HB0 := Lib.hid b0
  have HB1 := Lib.hid b1
  have hln := hr.len
  have hck0 := relCheck_any a r c _ (hr.ext hE0)
  clear hT hr hE0
  obtain ⟨c0, -⟩ := b0
  obtain ⟨c1, f1⟩ := b1
  by_cases hck : relCheck r = 0
  · rw [has1_eq hck]
    rw [hck] at hck0
    have HCK := Lib.hid hck0
    clear hck0
    obtain ⟨h64, hin⟩ := relCheck_ok hck
    have HIN := Lib.hid hin
    clear hck hin
    go_enter Tryd.func14, Tryd.ntmps14
    go_wp2_with fail
    generalize ((w.alloc (.cells #[.slice a r.length c] 22)).alloc (.cells #[.bool false] 4)) = w2 at *
    refine HCK.out.mono ?_
    rintro _ _ ⟨rfl, rfl⟩
    dsimp only
    go_wp2_with fail
    refine (containsU_any r 0#64 a c w2 HR.out).mono ?_
    rintro _ w3 ⟨rfl, hE3⟩
    have HE3 := Lib.hid hE3
    obtain ⟨d1, e1⟩ := HB1.out.ext hE3
    have dl1 := (HB1.out.ext hE3).lt
    have HVV := Lib.hid (ser_any r)
    clear hE3 c0 c1 f1
    generalize (r.any fun s => s == 0#64) = bb at *
    dsimp only
    go_wp2_with fail
    refine bodyPost_ret (v := .bool (!bb)) ?_ rfl ?_
    · rw [results_cell_one rfl]
      go_simp
    · exact ⟨by rw [← HVV.out], ((HE.out.trans HE3.out).setCell (by simp) _)⟩
  · rw [has_bad hck]
    have hq : (relCheck r != 0) = true := by simpa using hck
    have HCK := Lib.hid hck0
    clear hck0 hck
    generalize relCheck r = er at *
    go_enter Tryd.func14, Tryd.ntmps14
    go_wp2_with fail
    generalize ((w.alloc (.cells #[.slice a r.length c] 22)).alloc (.cells #[.bool false] 4)) = w2 at *
    refine HCK.out.mono ?_
    rintro _ _ ⟨rfl, rfl⟩
    dsimp only
    go_wp2_with fail
    refine bodyPost_ret (v := .bool false) ?_ rfl ?_
    · rw [results_cell_one rfl]
      go_simp
    · exact ⟨rfl, HE.out.setCell (by simp) _⟩
set_option maxRecDepth 20000 in
set_option maxHeartbeats 4000000 in
theorem has2_any (r : List (BitVec 64)) (a : Option Addr) (c : Nat) (w : World) (hT : Tab w) (hr : RU w a r) :
    Calls Tryd.prog 14 #[.slice a r.length c, .int .i64 2] w fun e w' => e = .returned (.bool (hasB r 2)) ∧ Ext w w' := by
  have hE0 : Ext w ((w.alloc (.cells #[.slice a r.length c] 22)).alloc (.cells #[.bool false] 4)) := ((Ext.refl w).alloc _).alloc _
  have b0 := (Bx1.new w (.slice a r.length c) 22).ext ((Ext.refl _).alloc (.cells #[.bool false] 4))
  have b1 := (Bx1.new (w.alloc (.cells #[.slice a r.length c] 22)) (.bool false) 4).at (b' := w.heap.size + 1) (by simp)
  have HE := Lib.hid hE0
  have HT := Lib.hid (hT.ext hE0)
  have HR := Lib.hid (hr.ext hE0)
  have HB0 := Lib.hid b0
  have HB1 := Lib.hid b1
  have hln := hr.len
  have hck0 := relCheck_any a r c _ (hr.ext hE0)
  clear hT hr hE0
  obtain ⟨c0, -⟩ := b0
  obtain ⟨c1, f1⟩ := b1
  by_cases hck : relCheck r = 0
  · rw [has2_eq hck]
    rw [hck] at hck0
    have HCK := Lib.hid hck0
    clear hck0
    obtain ⟨h64, hin⟩ := relCheck_ok hck
    have HIN := Lib.hid hin
    clear hck hin
    go_enter Tryd.func14, Tryd.ntmps14
    go_wp2_with fail
    generalize ((w.alloc (.cells #[.slice a r.length c] 22)).alloc (.cells #[.bool false] 4)) = w2 at *
    refine HCK.out.mono ?_
    rintro _ _ ⟨rfl, rfl⟩
    dsimp only
    go_wp2_with fail
    go_loopw [24] (fun i wr => ∃ k : Nat, k ≤ r.length ∧ i = .int .i64 (k : Int) ∧ Hid (Ext w2 wr) ∧ Hid (∀ j, j < k → bt (nth r j) j = true)) (fun i _ => r.length - (RowKit.intOf i).toNat)
    case atStart => exact ⟨0, Nat.zero_le _, rfl, Lib.hid (Ext.refl _), Lib.hid fun _ h => absurd h (Nat.not_lt_zero _)⟩
    case round =>
      clear c0 c1 f1
      obtain ⟨k, hk, rfl, HX, HNO⟩ := hrel
      obtain ⟨d0, -⟩ := HB0.out.ext HX.out
      obtain ⟨d1, e1⟩ := HB1.out.ext HX.out
      have dl0 := (HB0.out.ext HX.out).lt
      have dl1 := (HB1.out.ext HX.out).lt
      by_cases hkl : k < r.length
      · obtain ⟨g, q, rfl, hg, hc⟩ := (HR.out.ext HX.out).get hkl
        have hk64 : k < 64 := by omega
        have hbu := bit_un (nth r k) k
        cases hb : bt (nth r k) k
        · rw [hb] at hbu
          simp only [b01I, Bool.false_eq_true, if_false] at hbu
          have HVV : Hid (refB r = false) := Lib.hid (by
            cases hq : refB r
            · rfl
            · have := (refB_iff rfl).1 hq k hkl
              rw [hb] at this; cases this)
          clear hb
          go_wp2_with fail
          refine bodyPost_ret (v := .bool false) ?_ rfl ?_
          · rw [results_cell_one rfl]
            go_simp
          · exact ⟨by rw [HVV.out], ((HE.out.trans HX.out).setCell (by simp) _)⟩
        · rw [hb] at hbu
          simp only [b01I, if_true] at hbu
          have HBB := Lib.hid hb
          clear hb
          go_wp2_with fail
          go_roundw
          case rel => exact ⟨k + 1, hkl, by go_num, HX, Lib.hid (lt_step HNO.out HBB.out)⟩
          case measure => simp [RowKit.intOf]; omega
      · have HVV : Hid (refB r = true) := Lib.hid ((refB_iff rfl).2 fun v hv => HNO.out v (by omega))
        go_wp2_with fail
        refine bodyPost_ret (v := .bool true) ?_ rfl ?_
        · rw [results_cell_one rfl]
          go_simp
        · exact ⟨by rw [HVV.out], ((HE.out.trans HX.out).setCell (by simp) _)⟩
  · rw [has_bad hck]
    have hq : (relCheck r != 0) = true := by simpa using hck
    have HCK := Lib.hid hck0
    clear hck0 hck
    generalize relCheck r = er at *
    go_enter Tryd.func14, Tryd.ntmps14
    go_wp2_with fail
    generalize ((w.alloc (.cells #[.slice a r.length c] 22)).alloc (.cells #[.bool false] 4)) = w2 at *
    refine HCK.out.mono ?_
    rintro _ _ ⟨rfl, rfl⟩
    dsimp only
    go_wp2_with fail
    refine bodyPost_ret (v := .bool false) ?_ rfl ?_
    · rw [results_cell_one rfl]
      go_simp
    · exact ⟨rfl, HE.out.setCell (by simp) _⟩
set_option maxRecDepth 20000 in
set_option maxHeartbeats 4000000 in
theorem has3_any (r : List (BitVec 64)) (a : Option Addr) (c : Nat) (w : World) (hT : Tab w) (hr : RU w a r) :
    Calls Tryd.prog 14 #[.slice a r.length c, .int .i64 3] w fun e w' => e = .returned (.bool (hasB r 3)) ∧ Ext w w' := by
  have hE0 : Ext w ((w.alloc (.cells #[.slice a r.length c] 22)).alloc (.cells #[.bool false] 4)) := ((Ext.refl w).alloc _).alloc _
  have b0 := (Bx1.new w (.slice a r.length c) 22).ext ((Ext.refl _).alloc (.cells #[.bool false] 4))
  have b1 := (Bx1.new (w.alloc (.cells #[.slice a r.length c] 22)) (.bool false) 4).at (b' := w.heap.size + 1) (by simp)
  have HE := Lib.hid hE0
  have HT := Lib.hid (hT.ext hE0)
  have HR := Lib.hid (hr.ext hE0)
  have HB0 := Lib.hid b0
  have HB1 := Lib.hid b1
  have hln := hr.len
  have hck0 := relCheck_any a r c _ (hr.ext hE0)
  clear hT hr hE0
  obtain ⟨c0, -⟩ := b0
  obtain ⟨c1, f1⟩ := b1
  by_cases hck : relCheck r = 0
  · rw [has3_eq hck]
    rw [hck] at hck0
    have HCK := Lib.hid hck0
    clear hck0
    obtain ⟨h64, hin⟩ := relCheck_ok hck
    have HIN := Lib.hid hin
    have HCKR := Lib.hid hck
    clear hck hin
    go_enter Tryd.func14, Tryd.ntmps14
    go_wp2_with fail
    generalize ((w.alloc (.cells #[.slice a r.length c] 22)).alloc (.cells #[.bool false] 4)) = w2 at *
    refine HCK.out.mono ?_
    rintro _ _ ⟨rfl, rfl⟩
    dsimp only
    go_wp2_with fail
    have HRV : Hid (∀ W, Ext w2 W → Calls Tryd.prog 44 #[.slice a r.length c] W fun e w' => (∃ g cp, e = .returned (.slice (some ⟨g, 0, none⟩) r.length cp) ∧ RU w' (some ⟨g, 0, none⟩) (revL r)) ∧ Ext W w') := Lib.hid fun W e => reversed_any r a c W (HT.out.ext e) (HR.out.ext e) HCKR.out
    have HEQ : Hid (∀ W g cp, Ext w2 W → RU W (some ⟨g, 0, none⟩) (revL r) → Calls Tryd.prog 43 #[.slice a r.length c, .slice (some ⟨g, 0, none⟩) r.length cp] W fun e w' => e = .returned (.bool (decide (r = revL r))) ∧ Ext W w') := Lib.hid fun W g cp e hu => equalU_any r (revL r) a _ c cp r.length W rfl (by simp [revL]) (HR.out.ext e) hu
    have HKP : Hid (∀ w', Ext w2.drew w' → w'.cell? ⟨w.heap.size, 0, none⟩ = some (.slice a r.length c)) := Lib.hid fun w' e => e.cell c0
    go_region_held3 (fun w' => w'.cell? ⟨w.heap.size, 0, none⟩ = some (.slice a r.length c)) (first | go_keep | exact HKP.out _ (by assumption)) (first | (go_at_call 44; refine (HRV.out _ (Ext.refl _).drew).mono ?_; rintro _ w3 ⟨⟨g, cp, rfl, hu⟩, hE3⟩) | (go_at_call 43; refine (HEQ.out _ g cp ((Ext.refl _).drew.trans hE3) hu).mono ?_; rintro _ w4 ⟨rfl, hE4⟩; have hE5 := hE3.trans hE4; obtain ⟨d1, e1⟩ := HB1.out.ext ((Ext.refl _).drew.trans hE5); have dl1 := (HB1.out.ext ((Ext.refl _).drew.trans hE5)).lt) | fail)
    all_goals
      have HE5 := Lib.hid ((Ext.refl _).drew.trans hE5)
      clear hE3 hE4 hE5 c0 c1 f1
      generalize hbb : decide (r = revL r) = bb at *
      have HBV := Lib.hid hbb
      clear hbb
      go_wp2_with fail
      refine bodyPost_ret (v := .bool bb) ?_ rfl ?_
      · rw [results_cell_one rfl]
        go_simp
      · exact ⟨by rw [HBV.out], ((HE.out.trans HE5.out).setCell (by simp) _)⟩
  · rw [has_bad hck]
    have hq : (relCheck r != 0) = true := by simpa using hck
    have HCK := Lib.hid hck0
    clear hck0 hck
    generalize relCheck r = er at *
    go_enter Tryd.func14, Tryd.ntmps14
    go_wp2_with fail
    generalize ((w.alloc (.cells #[.slice a r.length c] 22)).alloc (.cells #[.bool false] 4)) = w2 at *
    refine HCK.out.mono ?_
    rintro _ _ ⟨rfl, rfl⟩
    dsimp only
    go_wp2_with fail
    refine bodyPost_ret (v := .bool false) ?_ rfl ?_
    · rw [results_cell_one rfl]
      go_simp
    · exact ⟨rfl, HE.out.setCell (by simp) _⟩
end Wt
