/- The model of a product, as it is built (printed by gen_pre.py out of XArr's structure). -/
import Derived.Test.YtbeaagnahldefaaDoorM8Bb
import Derived.Test.YtbeaagnahldefaaDoorM8Az
import Derived.Test.YtbeaagnahldefaaDoorM8Ba
namespace Wt
open Go Go.RowKit Go.Maps Go.Proofs Fm

theorem cf_pu1 (args : Array Value) (W : World) : (callFunc 63 args).run Tryd.prog W = .ok (.enter 63 args) W := by
  exact enters_of Tryd.func63 (by kernel_rfl) rfl args W
/-- A list of sets that is filled from its head on. -/
def fillL (f : Nat → BitVec 64) (n k : Nat) : List (BitVec 64) := (List.range n).map fun e => if e < k then f e else 0#64
theorem fillL_len (f : Nat → BitVec 64) (n k : Nat) : (fillL f n k).length = n := by simp [fillL]
theorem fillL_nth (f : Nat → BitVec 64) {n k e : Nat} (h : e < n) : nth (fillL f n k) e = if e < k then f e else 0#64 := nth_mapX _ h
theorem fillL_zero (f : Nat → BitVec 64) (n : Nat) : fillL f n 0 = List.replicate n 0#64 := by
  refine nth_ext (by simp [fillL]) fun v hv => ?_
  rw [fillL_len] at hv
  rw [fillL_nth _ hv, if_neg (Nat.not_lt_zero _), nth_eq (List.replicate n 0#64) _ (by simpa using hv)]
  simp
theorem fillL_step (f : Nat → BitVec 64) (n : Nat) {k : Nat} : (fillL f n k).set k (f k) = fillL f n (k + 1) := by
  refine nth_ext (by rw [List.length_set, fillL_len, fillL_len]) fun v hv => ?_
  rw [List.length_set, fillL_len] at hv
  rw [nth_eq _ _ (by rw [List.length_set, fillL_len]; exact hv), List.getElem_set]
  by_cases e : k = v
  · subst e
    rw [if_pos rfl, fillL_nth _ hv, if_pos (by omega)]
  · rw [if_neg e, ← nth_eq _ _ (by rw [fillL_len]; exact hv), fillL_nth _ hv, fillL_nth _ hv]
    by_cases h1 : v < k
    · rw [if_pos h1, if_pos (by omega)]
    · rw [if_neg h1, if_neg (by omega)]
theorem fillL_full (f : Nat → BitVec 64) (n : Nat) : fillL f n n = (List.range n).map f := by
  refine nth_ext (by simp [fillL]) fun v hv => ?_
  rw [fillL_len] at hv
  rw [fillL_nth _ hv, if_pos hv, nth_mapX _ hv]
/-- The struct that product.Update builds, its sets and its rows. -/
structure PU (W0 : World) (n len : Nat) (lv : List (BitVec 64)) (svs : List Value) (rows : List (List (BitVec 64))) (vv vr : Value) (wr : World) : Prop where
  e : Below n W0 wr
  lo : n < W0.heap.size
  out : OutAt wr n (.int .i64 (len : Int)) vv vr
  ov : wr.ownsRow (n + 1) 40 1 vv lv.length (lv.map uv)
  orr : wr.ownsRow (n + 1) 22 1 vr svs.length svs
  rl : svs.length = rows.length
  rw : ∀ j, j < rows.length → OU wr (n + 1) (nth svs j) (nth rows j)
  dj : ∀ i j, i < j → j < svs.length → Apart (nth svs j) (nth svs i)
  dv : ∀ j, j < svs.length → Apart (nth svs j) vv
section
variable {W0 wr W1 : World} {n len : Nat} {lv : List (BitVec 64)} {svs : List Value} {rows : List (List (BitVec 64))} {vv vr v' : Value}
theorem PU.ext' {w' : World} (h : PU W0 n len lv svs rows vv vr wr) (e : Ext wr w') : PU W0 n len lv svs rows vv vr w' := by
  have hk : ∀ {T sz m : Nat} {v : Value} {xs : List Value}, wr.ownsRow (n + 1) T sz v m xs → w'.ownsRow (n + 1) T sz v m xs := fun {_ _ _ v _} ho => ho.kept (row := none) ⟨e.os, e.tape, e.output, e.size, fun k hk _ => e.block k hk⟩ (by cases v.ownBlock <;> simp)
  exact ⟨Below.trans h.e (Below.mono e (by have := h.out.lt; omega)), h.lo, h.out.keep (e.block _ h.out.lt), hk h.ov, hk h.orr, h.rl, fun j hj => hk (h.rw j hj), h.dj, h.dv⟩
/-- One more set. -/
theorem PU.pushV (h : PU W0 n len lv [] [] vv (.slice none 0 0) wr) {x : BitVec 64} (ho : W1.ownsRow (n + 1) 40 1 v' (lv.length + 1) (lv.map uv ++ [uv x])) (g : wr.grownBy W1 vv.ownBlock) :
    PU W0 n len (lv ++ [x]) [] [] v' (.slice none 0 0) (W1.setCell ⟨n, 1, none⟩ v') := by
  have hr : ∀ k, vv.ownBlock = some k → n + 1 ≤ k := fun k hk => (h.ov.lt k hk).1
  have hb : W1.heap[n]? = wr.heap[n]? := g.block _ h.out.lt (fun e => by have := hr _ e.symm; omega)
  refine ⟨(Below.grown h.e g (by have := h.out.lt; omega) (fun k hk => by have := hr k hk; omega)).setCell (by simp) _, h.lo, (h.out.keep hb).set1 v', ?_, World.ownsRow_nil _ _ _ _, rfl, fun j hj => absurd hj (by simp), fun i j _ hj => absurd hj (by simp), fun j hj => absurd hj (by simp)⟩
  refine setOther ?_ (by omega)
  rw [List.map_append, List.length_append]; exact ho
/-- One more row. -/
theorem PU.pushR (h : PU W0 n len lv svs rows vv vr wr) {sv : Value} {r : List (BitVec 64)} (hs : OU wr (n + 1) sv r) (hd : (∀ j, j < svs.length → Apart sv (nth svs j)) ∧ Apart sv vv) (ho : W1.ownsRow (n + 1) 22 1 v' (svs.length + 1) (svs ++ [sv])) (g : wr.grownBy W1 vr.ownBlock) :
    PU W0 n len lv (svs ++ [sv]) (rows ++ [r]) vv v' (W1.setCell ⟨n, 2, none⟩ v') := by
  have hr : ∀ k, vr.ownBlock = some k → n + 1 ≤ k := fun k hk => (h.orr.lt k hk).1
  have hb : W1.heap[n]? = wr.heap[n]? := g.block _ h.out.lt (fun e => by have := hr _ e.symm; omega)
  have hk : ∀ {m : Nat} {v : Value} {xs : List Value}, wr.ownsRow (n + 1) 40 1 v m xs → (W1.setCell ⟨n, 2, none⟩ v').ownsRow (n + 1) 40 1 v m xs := fun ho => setOther (ho.kept g (own_ne ho h.orr (by decide))) (by omega)
  refine ⟨(Below.grown h.e g (by have := h.out.lt; omega) (fun k hk => by have := hr k hk; omega)).setCell (by simp) _, h.lo, (h.out.keep hb).set2 v', hk h.ov, ?_, by simp [h.rl], fun j hj => ?_, fun i j hij hj => ?_, fun j hj => ?_⟩
  · refine setOther ?_ (by omega)
    rw [List.length_append]; exact ho
  · by_cases hj2 : j < rows.length
    · rw [nth_appL _ _ (by rw [h.rl]; exact hj2), nth_appL _ _ hj2]; exact hk (h.rw j hj2)
    · have e : j = rows.length := by simp at hj; omega
      subst e
      have e1 := nth_appR svs [sv] (k := 0) (by simp)
      have e2 := nth_appR rows [r] (k := 0) (by simp)
      rw [Nat.add_zero, h.rl] at e1
      rw [Nat.add_zero] at e2
      rw [e1, e2]; exact hk hs
  · have hj : j < svs.length + 1 := by simpa using hj
    rw [nth_appL svs [sv] (k := i) (by omega)]
    by_cases hj2 : j < svs.length
    · rw [nth_appL _ _ hj2]; exact h.dj i j hij hj2
    · obtain rfl : j = svs.length := by omega
      have e1 := nth_appR svs [sv] (k := 0) (by simp)
      rw [Nat.add_zero] at e1
      rw [e1]; exact hd.1 i hij
  · have hj : j < svs.length + 1 := by simpa using hj
    by_cases hj2 : j < svs.length
    · rw [nth_appL _ _ hj2]; exact h.dv j hj2
    · obtain rfl : j = svs.length := by omega
      have e1 := nth_appR svs [sv] (k := 0) (by simp)
      rw [Nat.add_zero] at e1
      rw [e1]; exact hd.2
/-- A row that is made later shares no memory with what there is. -/
theorem PU.apart {wz : World} {sv : Value} {r : List (BitVec 64)} (h : PU W0 n len lv svs rows vv vr wr) (hs : OU wz wr.heap.size sv r) : (∀ j, j < svs.length → Apart sv (nth svs j)) ∧ Apart sv vv :=
  ⟨fun j hj => Apart.later hs fun b hb => ((h.rw j (by rw [← h.rl]; exact hj)).lt b hb).2, Apart.later hs fun b hb => (h.ov.lt b hb).2⟩
theorem PU.outV (h : PU W0 n len lv svs rows vv vr wr) (g : wr.grownBy W1 vv.ownBlock) : OutAt W1 n (.int .i64 (len : Int)) vv vr :=
  h.out.keep (g.block _ h.out.lt (fun e => by have := (h.ov.lt _ e.symm).1; omega))
theorem PU.outR (h : PU W0 n len lv svs rows vv vr wr) (g : wr.grownBy W1 vr.ownBlock) : OutAt W1 n (.int .i64 (len : Int)) vv vr :=
  h.out.keep (g.block _ h.out.lt (fun e => by have := (h.orr.lt _ e.symm).1; omega))
end
/-- The sets so far; the rows so far. -/
def PUV (W0 : World) (n len : Nat) (L : List (BitVec 64)) (k : Nat) (wr : World) : Prop := ∃ vv, PU W0 n len (L.take k) [] [] vv (.slice none 0 0) wr
def PUR (W0 : World) (n len : Nat) (L : List (BitVec 64)) (Rows : List (List (BitVec 64))) (k : Nat) (wr : World) : Prop := ∃ vv svs vr, PU W0 n len L svs (Rows.take k) vv vr wr
theorem PU.start (wr : World) (len : Nat) : PU (wr.alloc (.cells #[.int .i64 (len : Int), .slice none 0 0, .slice none 0 0] 25)) wr.heap.size len [] [] [] (.slice none 0 0) (.slice none 0 0) (wr.alloc (.cells #[.int .i64 (len : Int), .slice none 0 0, .slice none 0 0] 25)) :=
  ⟨Below.refl _ _, by simp, OutAt.new wr _ _ _ _, World.ownsRow_nil _ _ _ _, World.ownsRow_nil _ _ _ _, rfl, fun j hj => absurd hj (by simp), fun i j _ hj => absurd hj (by simp), fun j hj => absurd hj (by simp)⟩
/-- A list of sets under way in memory, above an older world. -/
def FiA (W0 : World) (f : Nat → BitVec 64) (n k : Nat) (w : World) : Prop := Ext W0 w ∧ OG w W0.heap.size 40 uv W0.heap.size n n (fillL f n k)
theorem FiA.ext {W0 w w' : World} {f : Nat → BitVec 64} {n k : Nat} (h : FiA W0 f n k w) (e : Ext w w') : FiA W0 f n k w' := ⟨h.1.trans e, h.2.ext e⟩
theorem FiA.made (W0 : World) (f : Nat → BitVec 64) (n : Nat) (hn : n ≤ 140737488355328) : FiA W0 f n 0 (W0.alloc (.cells (madeCells #[.int .u64 0] n) 40)) :=
  ⟨(Ext.refl W0).alloc _, by rw [fillL_zero]; exact OG.made (enc := uv) W0 n 0#64 (Nat.le_refl _) hn⟩
theorem FiA.put {W0 w : World} {f : Nat → BitVec 64} {n k : Nat} (h : FiA W0 f n k w) : FiA W0 f n (k + 1) (w.setCell ⟨W0.heap.size, k, none⟩ (.int .u64 (un (f k)))) :=
  ⟨h.1.setCell (Nat.le_refl _) _, by have h2 := h.2.set k (f k); rw [fillL_step] at h2; exact h2⟩
theorem FiA.ru {W0 w : World} {f : Nat → BitVec 64} {n k : Nat} (h : FiA W0 f n k w) (hn : n ≤ 140737488355328) : RU w (some ⟨W0.heap.size, 0, none⟩) (fillL f n k) := RU_of_OG h.2 hn
end Wt

/- Walk: product.Update. -/
namespace Wt
open Go Go.RowKit Go.Maps Go.Proofs Fm

/-- What product.Update returns, for a list of pairs. -/
def RetPu (M : Mo) (A : Acn) (L : List (Nat × Nat)) (e : Ending) (w w' : World) : Prop :=
  ((L = [] ∧ e = .returned (.tuple #[.agg #[.int .i64 0, .slice none 0 0, .slice none 0 0], .slice none 0 0, .int .i64 11])) ∨
   (L ≠ [] ∧ ∃ va ra la vc rc lc, e = .returned (.tuple #[.agg #[.int .i64 (L.length : Int), .slice va M.val.length vc, .slice ra M.rel.length rc], .slice la L.length lc, .int .i64 0]) ∧ RM w' va ra (prM M A L))) ∧ Ext w w'
set_option maxRecDepth 20000 in
set_option maxHeartbeats 16000000 in
theorem pupdate_any (M : Mo) (A : Acn) (va ra pa qa sa : Option Addr) (vc rc pc qc sc : Nat) (w : World) (hm : RM w va ra M) (ha : RAc w pa qa sa A) (he : prErr M A = 0) (h64 : (prK M A M.worlds.toNat).length ≤ 64) :
    Calls Tryd.prog 24 #[.agg #[.int .i64 M.worlds, .slice va M.val.length vc, .slice ra M.rel.length rc], .agg #[.slice pa A.pre.length pc, .slice qa A.post.length qc, .slice sa A.rel.length sc]] w fun e w' => RetPu M A (prK M A M.worlds.toNat) e w w' := by
  have hE1 : Ext w (w.alloc (.cells #[.int .i64 M.worlds, .slice va M.val.length vc, .slice ra M.rel.length rc] 25)) := (Ext.refl w).alloc _
  have hE2 : Ext (w.alloc (.cells #[.int .i64 M.worlds, .slice va M.val.length vc, .slice ra M.rel.length rc] 25)) ((w.alloc (.cells #[.int .i64 M.worlds, .slice va M.val.length vc, .slice ra M.rel.length rc] 25)).alloc (.cells #[.slice pa A.pre.length pc, .slice qa A.post.length qc, .slice sa A.rel.length sc] 45)) := (Ext.refl _).alloc _
  have hE3 : Ext ((w.alloc (.cells #[.int .i64 M.worlds, .slice va M.val.length vc, .slice ra M.rel.length rc] 25)).alloc (.cells #[.slice pa A.pre.length pc, .slice qa A.post.length qc, .slice sa A.rel.length sc] 45)) (((w.alloc (.cells #[.int .i64 M.worlds, .slice va M.val.length vc, .slice ra M.rel.length rc] 25)).alloc (.cells #[.slice pa A.pre.length pc, .slice qa A.post.length qc, .slice sa A.rel.length sc] 45)).alloc (.cells #[.int .i64 0, .slice none 0 0, .slice none 0 0] 25)) := (Ext.refl _).alloc _
  have HOM := Lib.hid ((OutAt.new w (.int .i64 M.worlds) (.slice va M.val.length vc) (.slice ra M.rel.length rc) 25).ext (hE2.trans hE3))
  have HOA := Lib.hid ((OutAt.new1 w (.cells #[.int .i64 M.worlds, .slice va M.val.length vc, .slice ra M.rel.length rc] 25) (.slice pa A.pre.length pc) (.slice qa A.post.length qc) (.slice sa A.rel.length sc) 45).ext hE3)
  have HOR := Lib.hid (OutAt.new3 w (.cells #[.int .i64 M.worlds, .slice va M.val.length vc, .slice ra M.rel.length rc] 25) (.cells #[.slice pa A.pre.length pc, .slice qa A.post.length qc, .slice sa A.rel.length sc] 45) (.int .i64 0) (.slice none 0 0) (.slice none 0 0) 25)
  have HE := Lib.hid (hE1.trans (hE2.trans hE3))
  have HM := Lib.hid (hm.ext (hE1.trans (hE2.trans hE3)))
  have HA := Lib.hid (ha.ext (hE1.trans (hE2.trans hE3)))
  have hvl := hm.val.len
  have hrl := hm.rel.len
  have hwo := worlds_ok M A va ra pa qa sa vc rc pc qc sc _ (hm.ext (hE1.trans (hE2.trans hE3))) (ha.ext (hE1.trans (hE2.trans hE3))) he
  have HWO := Lib.hid hwo
  have h1 : moCheck M = 0 := by
    by_cases h : moCheck M = 0
    · exact h
    · unfold prErr at he; rw [if_pos h] at he; exact absurd he h
  have h2 : acErr A M.rel.length M.val.length = 0 := by unfold prErr at he; rwa [if_neg (by simp [h1])] at he
  obtain ⟨N, hmo⟩ := moCheck_ok h1
  have hNt : M.worlds.toNat = N := by rw [hmo.worlds]; simp
  have hok := acErr_ok h2
  have hp1 := hok.p1
  have hp8 := hok.p8
  have hv8 := hmo.val
  have hr4 := hmo.rel
  have hN64 := hmo.most
  have HRW := Lib.hid hmo.row
  have h8 := acErr_mono h2
  rw [← hok.rl] at h8
  have H8 := Lib.hid h8
  have HAR := Lib.hid hok.rl
  have HARR := Lib.hid hok.rr
  rw [hNt] at HWO h64 ⊢
  have HLB : Hid (∀ k, k < (prK M A N).length → (nth (prK M A N) k).1 < N ∧ (nth (prK M A N) k).2 < A.pre.length) := Lib.hid fun k hk => prK_mem (nth_mem hk)
  clear hm ha hE1 hE2 hE3 hwo he h1 h2 hok hmo h8 hNt
  generalize prK M A N = L at *
  obtain ⟨m0, m1, m2, -⟩ := HOM.out
  obtain ⟨a0, a1, a2, -⟩ := HOA.out
  have ml := World.block_lt_of_cell? _ _ m0
  have al := World.block_lt_of_cell? _ _ a0
  dsimp only at ml al
  have HSZ : Hid ((((w.alloc (.cells #[.int .i64 M.worlds, .slice va M.val.length vc, .slice ra M.rel.length rc] 25)).alloc (.cells #[.slice pa A.pre.length pc, .slice qa A.post.length qc, .slice sa A.rel.length sc] 45)).alloc (.cells #[.int .i64 0, .slice none 0 0, .slice none 0 0] 25)).heap.size = w.heap.size + 3) := Lib.hid (by simp)
  go_enter Tryd.func24, Tryd.ntmps24
  go_wp2_with fail
  generalize (((w.alloc (.cells #[.int .i64 M.worlds, .slice va M.val.length vc, .slice ra M.rel.length rc] 25)).alloc (.cells #[.slice pa A.pre.length pc, .slice qa A.post.length qc, .slice sa A.rel.length sc] 45)).alloc (.cells #[.int .i64 0, .slice none 0 0, .slice none 0 0] 25)) = w2 at *
  refine HWO.out.mono ?_
  rintro _ w3 ⟨hcs, hE3⟩
  have HE3 := Lib.hid hE3
  have HOR3 := Lib.hid (HOR.out.ext hE3)
  have HS3 : Hid (w.heap.size + 3 ≤ w3.heap.size) := Lib.hid (by rw [← HSZ.out]; exact hE3.size)
  clear m0 m1 m2 ml a0 a1 a2 al hE3 HWO
  rcases hcs with ⟨hL0, rfl⟩ | ⟨hL0, la, lc, rfl, hrp⟩
  · obtain ⟨r0, r1, r2, rfz⟩ := HOR3.out.ext ((Ext.refl w3).alloc (.cells #[.slice none 0 0] 48))
    have f0 := rfz 0
    have f1 := rfz 1
    have f2 := rfz 2
    have rl := World.block_lt_of_cell? _ _ r0
    have HL := Lib.hid hL0
    have HOX : Hid (OutAt _ _ _ _ _) := Lib.hid ⟨r0, r1, r2, rfz⟩
    have HEX := Lib.hid (HE.out.trans (HE3.out.alloc (.cells #[.slice none 0 0] 48)))
    clear rfz hL0
    dsimp only at rl ⊢
    go_wp2_with fail
    generalize w3.alloc (.cells #[.slice none 0 0] 48) = w4 at *
    obtain ⟨d0, d1, d2, -⟩ := ((HOX.out.set0 (.int .i64 0)).set1 (.slice none 0 0)).set2 (.slice none 0 0)
    have hEx : Ext w (((w4.setCell ⟨w.heap.size + 2, 0, none⟩ (.int .i64 0)).setCell ⟨w.heap.size + 2, 1, none⟩ (.slice none 0 0)).setCell ⟨w.heap.size + 2, 2, none⟩ (.slice none 0 0)) := ((HEX.out.setCell (by simp) _).setCell (by simp) _).setCell (by simp) _
    generalize (((w4.setCell ⟨w.heap.size + 2, 0, none⟩ (.int .i64 0)).setCell ⟨w.heap.size + 2, 1, none⟩ (.slice none 0 0)).setCell ⟨w.heap.size + 2, 2, none⟩ (.slice none 0 0)) = W2 at *
    refine bodyPost_ret (v := .tuple #[.agg #[(.int .i64 0), (.slice none 0 0), (.slice none 0 0)], .slice none 0 0, .int .i64 11]) ?_ rfl ?_
    · rw [results_cell_two rfl]
      go_simp
    · exact ⟨.inl ⟨HL.out, rfl⟩, hEx⟩
  have HL := Lib.hid hL0
  have HRP := Lib.hid hrp
  have hll : decide ((64 : Int) < (L.length : Int)) = false := decide_eq_false (by omega)
  have hF1 := cf_pu1
  have hX4 : Ext w3 (w3.alloc (.cells #[.slice la L.length lc] 48)) := (Ext.refl w3).alloc _
  have HX4 := Lib.hid hX4
  have HB7 := Lib.hid (Bx1.new w3 (.slice la L.length lc) 48)
  have HS4 : Hid ((w3.alloc (.cells #[.slice la L.length lc] 48)).heap.size = w3.heap.size + 1) := Lib.hid (by simp)
  have hPU0 := PU.start (w3.alloc (.cells #[.slice la L.length lc] 48)) L.length
  rw [HS4.out] at hPU0
  have HPU0 := Lib.hid hPU0
  have hX5 : Ext (w3.alloc (.cells #[.slice la L.length lc] 48)) ((w3.alloc (.cells #[.slice la L.length lc] 48)).alloc (.cells #[.int .i64 (L.length : Int), .slice none 0 0, .slice none 0 0] 25)) := (Ext.refl _).alloc _
  have HX5 : Hid (∀ w', Below (w3.heap.size + 1) ((w3.alloc (.cells #[.slice la L.length lc] 48)).alloc (.cells #[.int .i64 (L.length : Int), .slice none 0 0, .slice none 0 0] 25)) w' → Ext (w3.alloc (.cells #[.slice la L.length lc] 48)) w') := Lib.hid fun w' e => by
    refine Below.trans hX5 ?_
    rw [HS4.out]; exact e
  obtain ⟨m0, m1, m2, -⟩ := HOM.out.ext (HE3.out.trans (hX4.trans hX5))
  have ml := World.block_lt_of_cell? _ _ m0
  dsimp only at ml
  have hln := hrp.len
  clear hL0 hrp hX4 hX5 hPU0
  dsimp only
  go_wp2_with fail
  generalize (w3.alloc (.cells #[.slice la L.length lc] 48)).alloc (.cells #[.int .i64 (L.length : Int), .slice none 0 0, .slice none 0 0] 25) = W0 at *
  generalize w3.alloc (.cells #[.slice la L.length lc] 48) = w4 at *
  have HRP4 := Lib.hid (HRP.out.ext HX4.out)
  have HW4 := Lib.hid (HE3.out.trans HX4.out)
  obtain ⟨LV, hLV⟩ : ∃ LV : List (BitVec 64), LV = (List.range M.val.length).map fun i => prS M A L i := ⟨_, rfl⟩
  have hLVl : LV.length = M.val.length := by rw [hLV]; simp
  have HLVk : Hid (∀ k, k < M.val.length → nth LV k = prS M A L k) := Lib.hid fun k hk => by rw [hLV]; exact nth_mapX _ hk
  have HLVe := Lib.hid hLV
  obtain ⟨i0, hi1, hz0, hz1, hz2⟩ := info_parts u64_info
  clear m0 m1 m2 ml hLV
  go_loopw [42] (fun i wr => ∃ k : Nat, k ≤ M.val.length ∧ i = .int .i64 (k : Int) ∧ Hid (PUV W0 (w3.heap.size + 1) L.length LV k wr)) (fun i _ => M.val.length - (RowKit.intOf i).toNat)
  case atStart => exact ⟨0, Nat.zero_le _, rfl, Lib.hid ⟨_, HPU0.out⟩⟩
  case round =>
    obtain ⟨k, hk, rfl, HV⟩ := hrel
    obtain ⟨vv, hAR⟩ := HV.out
    have HAR2 := Lib.hid hAR
    have HXr := Lib.hid (HX5.out _ hAR.e)
    have HW := Lib.hid (HW4.out.trans HXr.out)
    clear HV hAR
    by_cases hkl : k < M.val.length
    · obtain ⟨a0, a1, a2, -⟩ := HOA.out.ext HW.out
      have al := World.block_lt_of_cell? _ _ a0
      have mk1 := fun (w : World) => run_make_row' (P := Tryd.prog) 22 40 (.int .u64 0) 8 Tryd.underlying22 u64_info rfl .i64 .i64 A.pre.length (by omega) (by omega) w
      dsimp only at al
      go_wp2_with fail
      clear mk1 a0 a1 a2 al
      obtain ⟨f, hf⟩ : ∃ f : Nat → BitVec 64, f = fun e => holdsOf M (vaL (nth A.post e) k) := ⟨_, rfl⟩
      have HFE : Hid (∀ e, f e = holdsOf M (vaL (nth A.post e) k)) := Lib.hid fun e => by rw [hf]
      have hFi := (FiA.made wr f A.pre.length (by omega)).ext ((Ext.refl _).alloc (.cells #[.slice (some ⟨wr.heap.size, 0, none⟩) A.pre.length A.pre.length] 22))
      have HFi := Lib.hid hFi
      have HB12 := Lib.hid ((Bx1.new (wr.alloc (.cells (madeCells #[.int .u64 0] A.pre.length) 40)) (.slice (some ⟨wr.heap.size, 0, none⟩) A.pre.length A.pre.length) 22).at (b' := wr.heap.size + 1) (by simp))
      clear hf hFi
      generalize (wr.alloc (.cells (madeCells #[.int .u64 0] A.pre.length) 40)).alloc (.cells #[.slice (some ⟨wr.heap.size, 0, none⟩) A.pre.length A.pre.length] 22) = wc at *
      go_loopw [51] (fun j wz => ∃ e : Nat, e ≤ A.pre.length ∧ j = .int .i64 (e : Int) ∧ Hid (FiA wr f A.pre.length e wz) ∧ Hid (Bx1 wz (wr.heap.size + 1) (.slice (some ⟨wr.heap.size, 0, none⟩) A.pre.length A.pre.length))) (fun j _ => A.pre.length - (RowKit.intOf j).toNat)
      case atStart => exact ⟨0, Nat.zero_le _, rfl, HFi, HB12⟩
      case round =>
        clear HFi HB12
        rename World => wz
        obtain ⟨e, he, rfl, HFI, HBX⟩ := hrel
        have HWz := Lib.hid (HW.out.trans HFI.out.1)
        have hbx := HBX.out.c
        have hbl := HBX.out.lt
        by_cases hen : e < A.pre.length
        · obtain ⟨a0, a1, a2, -⟩ := HOA.out.ext HWz.out
          have al := World.block_lt_of_cell? _ _ a0
          have HVA := Lib.hid (avalue_any A pa qa sa pc qc sc e k wz (HA.out.ext HWz.out) H8.out hen (by omega))
          dsimp only at al
          go_wp2_with fail
          refine HVA.out.mono ?_
          rintro _ w6 ⟨fa, fc, rfl, hnf, hE6⟩
          have HN6 := Lib.hid hnf
          have HE6 := Lib.hid hE6
          clear HVA a0 a1 a2 al hbx hbl hnf hE6
          have HB6 := Lib.hid (HBX.out.ext HE6.out)
          have HFI6 := Lib.hid (HFI.out.ext HE6.out)
          have HM6 := Lib.hid (HOM.out.ext (HWz.out.trans HE6.out))
          have hho := holds_any M va ra vc rc fa fc (vaL (nth A.post e) k) w6.drew (HM.out.ext ((HWz.out.trans HE6.out).trans (Ext.refl w6).drew)) (HN6.out.ext (Ext.refl w6).drew)
          obtain ⟨X, hX⟩ : ∃ X, X = f e := ⟨_, rfl⟩
          rw [← HFE.out e, ← hX] at hho
          have HX := Lib.hid hX
          have HHO := Lib.hid hho
          have HSS : Hid (∀ W, Ext w6 W → W.cell? ⟨wr.heap.size + 1, 0, none⟩ = some (.slice (some ⟨wr.heap.size, 0, none⟩) A.pre.length A.pre.length) ∧ W.cell? ⟨w.heap.size, 0, none⟩ = some (.int .i64 M.worlds) ∧ W.cell? ⟨w.heap.size, 1, none⟩ = some (.slice va M.val.length vc) ∧ W.cell? ⟨w.heap.size, 2, none⟩ = some (.slice ra M.rel.length rc)) := Lib.hid fun W e => ⟨(HB6.out.ext e).c, (HM6.out.ext e).c0, (HM6.out.ext e).c1, (HM6.out.ext e).c2⟩
          clear hho hX
          generalize vaL (nth A.post e) k = fo at *
          dsimp only
          go_wp2_with fail
          have hsr : w.heap.size + 3 ≤ wr.heap.size := by rw [← HSZ.out]; exact HW.out.size
          refine wp_region_E 10 (fun w' => w'.cell? ⟨wr.heap.size + 1, 0, none⟩ = some (.slice (some ⟨wr.heap.size, 0, none⟩) A.pre.length A.pre.length) ∧ w'.cell? ⟨w.heap.size, 0, none⟩ = some (.int .i64 M.worlds) ∧ w'.cell? ⟨w.heap.size, 1, none⟩ = some (.slice va M.val.length vc) ∧ w'.cell? ⟨w.heap.size, 2, none⟩ = some (.slice ra M.rel.length rc)) (by kernel_rfl) ?_
          refine wpAnyE_take (i := 0) (v := ?_) (.here) (by kernel_rfl) (fun _ _ _ h => h) (HSS.out _ (Ext.refl _).drew) (by rfl) ?_ ?_
          rotate_left
          focus (intro w hSw; (try dsimp only at hSw); go_simp; try with_reducible rfl)
          try simp only [Act.put, List.setIfInBounds_toArray, List.set_cons_zero, List.set_cons_succ]
          refine wpAnyE_take (i := 1) (v := ?_) (.next (.here)) (by kernel_rfl) (fun _ _ _ h => h) (HSS.out _ (Ext.refl _).drew) (by rfl) ?_ ?_
          rotate_left
          focus (intro w hSw; (try dsimp only at hSw); go_simp; try with_reducible rfl)
          try simp only [Act.put, List.setIfInBounds_toArray, List.set_cons_zero, List.set_cons_succ]
          refine wpAnyE_take (i := 2) (v := ?_) (.next (.next (.here))) (by kernel_rfl) (fun _ _ _ h => h) (HSS.out _ (Ext.refl _).drew) (by rfl) ?_ ?_
          rotate_left
          focus (intro w hSw; (try dsimp only at hSw); go_simp; try with_reducible rfl)
          try simp only [Act.put, List.setIfInBounds_toArray, List.set_cons_zero, List.set_cons_succ]
          refine wpAnyE_take (i := 3) (v := ?_) (.next (.next (.next (.here)))) (by kernel_rfl) (fun _ _ _ h => h) (HSS.out _ (Ext.refl _).drew) (by rfl) ?_ ?_
          rotate_left
          focus (intro w hSw; (try dsimp only at hSw); go_simp; try with_reducible rfl)
          try simp only [Act.put, List.setIfInBounds_toArray, List.set_cons_zero, List.set_cons_succ]
          refine wpAnyE_one (k := 4) (.next (.next (.next (.next (.here))))) (by kernel_rfl) (fun K hK => ?_)
          go_simp
          refine HHO.out.mono ?_; rintro _ w7 ⟨rfl, hE7⟩; dsimp only
          refine hK.out _ _ (fun _ => HSS.out _ ((Ext.refl _).drew.trans hE7)) ?_
          clear hK
          try simp only [Act.put, List.setIfInBounds_toArray, List.set_cons_zero, List.set_cons_succ]
          have HFI7 := Lib.hid (HFI6.out.ext ((Ext.refl _).drew.trans hE7))
          have HB7x := Lib.hid (HB6.out.ext ((Ext.refl _).drew.trans hE7))
          have HM7 := Lib.hid (HM6.out.ext ((Ext.refl _).drew.trans hE7))
          refine wpAnyE_take (i := 5) (v := ?_) (.next (.next (.next (.next (.next (.here)))))) (by kernel_rfl) (fun _ _ _ h => h) (HSS.out _ ((Ext.refl _).drew.trans hE7)) (by rfl) ?_ ?_
          rotate_left
          focus (intro w hSw; (try dsimp only at hSw); go_simp; try with_reducible rfl)
          try simp only [Act.put, List.setIfInBounds_toArray, List.set_cons_zero, List.set_cons_succ]
          refine wpAnyE_take (i := 6) (v := ?_) (.next (.next (.next (.next (.next (.next (.here))))))) (by kernel_rfl) (fun _ _ _ h => h) (HSS.out _ ((Ext.refl _).drew.trans hE7)) (by rfl) ?_ ?_
          rotate_left
          focus (intro w hSw; (try dsimp only at hSw); go_simp; try with_reducible rfl)
          try simp only [Act.put, List.setIfInBounds_toArray, List.set_cons_zero, List.set_cons_succ]
          refine wpAnyE_take (i := 7) (v := ?_) (.next (.next (.next (.next (.next (.next (.next (.here)))))))) (by kernel_rfl) (fun _ _ _ h => h) (HSS.out _ ((Ext.refl _).drew.trans hE7)) (by rfl) ?_ ?_
          rotate_left
          focus (intro w hSw; (try dsimp only at hSw); go_simp; try with_reducible rfl)
          try simp only [Act.put, List.setIfInBounds_toArray, List.set_cons_zero, List.set_cons_succ]
          refine wpAnyE_take (i := 8) (v := ?_) (.next (.next (.next (.next (.next (.next (.next (.next (.here))))))))) (by kernel_rfl) (fun _ _ _ h => h) (HSS.out _ ((Ext.refl _).drew.trans hE7)) (by rfl) ?_ ?_
          rotate_left
          focus (intro w hSw; (try dsimp only at hSw); go_simp; try with_reducible rfl)
          try simp only [Act.put, List.setIfInBounds_toArray, List.set_cons_zero, List.set_cons_succ]
          have kf := HFI7.out.2.frozen e
          have kl := HFI7.out.2.lt
          have kc := HFI7.out.2.cell hen
          have HPT := Lib.hid HFI7.out.put
          clear hE7
          generalize nth (fillL f A.pre.length e) e = Y at *
          change w7.cell? ⟨wr.heap.size, e, none⟩ = some (.int .u64 (un Y)) at kc
          have hSQ : ∀ v, (fun w' : World => w'.cell? ⟨wr.heap.size + 1, 0, none⟩ = some (.slice (some ⟨wr.heap.size, 0, none⟩) A.pre.length A.pre.length) ∧ w'.cell? ⟨w.heap.size, 0, none⟩ = some (.int .i64 M.worlds) ∧ w'.cell? ⟨w.heap.size, 1, none⟩ = some (.slice va M.val.length vc) ∧ w'.cell? ⟨w.heap.size, 2, none⟩ = some (.slice ra M.rel.length rc)) (w7.setCell ⟨wr.heap.size, e, none⟩ v) := fun v => by
            have hM := HM7.out.keep (heap_setCell_other w7 ⟨wr.heap.size, e, none⟩ w.heap.size v (by simp; omega))
            exact ⟨(HB7x.out.keep (heap_setCell_other w7 ⟨wr.heap.size, e, none⟩ (wr.heap.size + 1) v (by simp))).c, hM.c0, hM.c1, hM.c2⟩
          have HSQ := Lib.hid hSQ
          clear hSQ
          refine wpAnyE_one (k := 9) (.next (.next (.next (.next (.next (.next (.next (.next (.next (.here)))))))))) (by kernel_rfl) (fun K hK => ?_)
          go_simp
          go_wp2_with fail
          refine hK.out _ _ (fun _ => HSQ.out _) ?_
          clear hK
          try simp only [Act.put, List.setIfInBounds_toArray, List.set_cons_zero, List.set_cons_succ]
          refine wpAnyE_seq [] (.nil) (by kernel_rfl) (by kernel_rfl) ?_
          go_wp2_with fail
          go_roundw
          case rel => exact ⟨e + 1, hen, by go_num, Lib.hid (by rw [HX.out]; exact HPT.out), Lib.hid (HB7x.out.keep (heap_setCell_other _ ⟨wr.heap.size, e, none⟩ _ _ (by simp)))⟩
          case measure => simp [RowKit.intOf]; omega
        · obtain rfl : e = A.pre.length := by omega
          have HRU := Lib.hid (HFI.out.ru (by omega))
          have HAZ := Lib.hid (HAR2.out.ext' HFI.out.1)
          obtain ⟨o0, o1, o2, ofz⟩ := HAZ.out.out
          have hol := HAZ.out.out.lt
          have hf1 := ofz 1
          have HXz := Lib.hid (HXr.out.trans HFI.out.1)
          have hb7 := (HB7.out.ext HXz.out).c
          have hl7 := World.block_lt_of_cell? _ _ hb7
          have htk : (LV.take k).length = k := by rw [List.length_take]; omega
          obtain ⟨P, hP⟩ : ∃ P : Nat × Nat → Bool, P = fun p => bt (nth (fillL f A.pre.length A.pre.length) p.2) p.1 := ⟨_, rfl⟩
          have hwh : Calls Tryd.prog 63 #[.func (.func 65) #[] #[.pointer (some ⟨wr.heap.size + 1, 0, none⟩)], .pointer (some ⟨w3.heap.size, 0, none⟩)] wz.drew fun r w' => r = .returned (.int .u64 (un (setTo (fun i => P (nth L i)) L.length))) ∧ Ext wz.drew w' := by
            have hd : Ext wz wz.drew := (Ext.refl wz).drew
            refine where_any 65 [.pointer (some ⟨wr.heap.size + 1, 0, none⟩)] P L la lc w3.heap.size wz.drew (HRP4.out.ext (HXz.out.trans hd)) (hd.cell hb7) h64 cf_pu2 fun W q hW hq => ?_
            have hb := HLB.out q hq
            have h := pu2_any (fillL f A.pre.length A.pre.length) (some ⟨wr.heap.size, 0, none⟩) A.pre.length (wr.heap.size + 1) (nth L q).1 (nth L q).2 W (HRU.out.ext (hd.trans hW)) ((HBX.out.ext (hd.trans hW)).c.trans (by rw [fillL_len])) (by rw [fillL_len]; exact hb.2) (by omega)
            rw [hP]; exact h
          have HWH := Lib.hid hwh
          have HSV : Hid (setTo (fun i => P (nth L i)) L.length = prS M A L k) := Lib.hid (setTo_congr fun q hq => by
            have hb := HLB.out q hq
            rw [hP]
            show bt (nth (fillL f A.pre.length A.pre.length) (nth L q).2) (nth L q).1 = bt (holdsOf M (vaL (nth A.post (nth L q).2) k)) (nth L q).1
            rw [fillL_nth _ hb.2, if_pos hb.2, HFE.out])
          have HO1 : Hid (∀ W, Ext wz W → W.cell? ⟨w3.heap.size + 1, 1, none⟩ = some vv) := Lib.hid fun W e => e.cell o1
          have HONEx : Hid (LV.take (k + 1) = LV.take k ++ [prS M A L k]) := Lib.hid (by
            rw [← HLVk.out k hkl, nth_eq _ _ (by omega), List.take_add_one, List.getElem?_eq_getElem (by omega)]; rfl)
          clear hwh hP
          generalize setTo (fun i => P (nth L i)) L.length = X at *
          clear hen he
          go_wp2_with fail
          refine wp_region_E 6 (fun w' => w'.cell? ⟨w3.heap.size + 1, 1, none⟩ = some vv) (by kernel_rfl) ?_
          refine wpAnyE_take (i := 0) (v := ?_) (.here) (by kernel_rfl) (fun _ _ _ h => h) (HO1.out _ (Ext.refl _).drew) (by rfl) ?_ ?_
          rotate_left
          focus (intro w hSw; (try dsimp only at hSw); go_simp; try with_reducible rfl)
          try simp only [Act.put, List.setIfInBounds_toArray, List.set_cons_zero, List.set_cons_succ]
          refine wpAnyE_take (i := 1) (v := ?_) (.next (.here)) (by kernel_rfl) (fun _ _ _ h => h) (HO1.out _ (Ext.refl _).drew) (by rfl) ?_ ?_
          rotate_left
          focus (intro w hSw; (try dsimp only at hSw); go_simp; try with_reducible rfl)
          try simp only [Act.put, List.setIfInBounds_toArray, List.set_cons_zero, List.set_cons_succ]
          refine wpAnyE_take (i := 2) (v := ?_) (.next (.next (.here))) (by kernel_rfl) (fun _ _ _ h => h) (HO1.out _ (Ext.refl _).drew) (by rfl) ?_ ?_
          rotate_left
          focus (intro w hSw; (try dsimp only at hSw); go_simp; try with_reducible rfl)
          try simp only [Act.put, List.setIfInBounds_toArray, List.set_cons_zero, List.set_cons_succ]
          refine wpAnyE_take (i := 3) (v := ?_) (.next (.next (.next (.here)))) (by kernel_rfl) (fun _ _ _ h => h) (HO1.out _ (Ext.refl _).drew) (by rfl) ?_ ?_
          rotate_left
          focus (intro w hSw; (try dsimp only at hSw); go_simp; try with_reducible rfl)
          try simp only [Act.put, List.setIfInBounds_toArray, List.set_cons_zero, List.set_cons_succ]
          refine wpAnyE_one (k := 4) (.next (.next (.next (.next (.here))))) (by kernel_rfl) (fun K hK => ?_)
          go_simp
          refine HWH.out.mono ?_; rintro _ w7 ⟨rfl, hE7⟩; dsimp only
          refine hK.out _ _ (fun _ => HO1.out _ ((Ext.refl _).drew.trans hE7)) ?_
          clear hK
          try simp only [Act.put, List.setIfInBounds_toArray, List.set_cons_zero, List.set_cons_succ]
          have HA7 := Lib.hid (HAZ.out.ext' ((Ext.refl _).drew.trans hE7))
          have HPA : Hid (∀ o, PU W0 (w3.heap.size + 1) L.length (LV.take k) [] [] vv (.slice none 0 0) (w7.alloc o)) := Lib.hid fun o => HA7.out.ext' ((Ext.refl w7).alloc o)
          have hsz7 : w3.heap.size + 1 < w7.heap.size := HA7.out.out.lt
          have HONE : Hid (∀ u ∈ [Value.int .u64 (un X)], u.oneCell' = true) := fun u hu => by
            rcases List.mem_singleton.1 hu with rfl
            rfl
          refine wpAnyE_one (k := 5) (.next (.next (.next (.next (.next (.here)))))) (by kernel_rfl) (fun K hK => ?_)
          go_simp
          refine hK.out _ _ (fun _ => HO1.out _ (((Ext.refl _).drew.trans hE7).alloc _)) ?_
          clear hK
          try simp only [Act.put, List.setIfInBounds_toArray, List.set_cons_zero, List.set_cons_succ]
          refine wpAnyE_seq [6, 7, 8] (.cons (.next (.next (.next (.next (.next (.next (.here))))))) (.cons (.next (.next (.next (.next (.next (.next (.next (.here)))))))) (.cons (.next (.next (.next (.next (.next (.next (.next (.next (.here))))))))) (.nil)))) (by kernel_rfl) (by kernel_rfl) ?_
          clear o0 o1 o2 ofz hol hf1 hb7 hl7 hE7
          go_wp2_with (at_builtin; refine wpList_append_lies _ rfl _ _ 22 rfl (w3.heap.size + 1 + 1) 40 i0 _ 1 8 Tryd.underlying22 hi1 hz0 hz1 hz2 rfl (by decide) vv (LV.take k).length ((LV.take k).map uv) rfl (HPA.out _).ov ⟨w7.heap.size, 0, none⟩ 1 1 [.int .u64 (un X)] rfl rfl (cell_one_new _ _ _) HONE.out (by decide) (by unfold maxLen; omega) (by omega) (by simp; omega) (w7.heap.size + 1) (by simp) ?_; intro gx cap W1 hown hgrow hat hlt2; obtain ⟨p0, p1, p2, pfz⟩ := (HPA.out _).outV hgrow; have pf := pfz 1; clear pfz; have hnew := (HPA.out _).pushV hown hgrow; have HNEW := Lib.hid hnew; clear hnew hown hgrow hat)
          go_roundw
          case rel => exact ⟨k + 1, hkl, by go_num, Lib.hid ⟨_, by rw [HONEx.out, ← HSV.out]; rw [htk] at HNEW; exact HNEW.out⟩⟩
          case measure => simp [RowKit.intOf]; omega
    · obtain rfl : k = M.val.length := by omega
      have hfull : LV.take M.val.length = LV := List.take_of_length_le (by omega)
      rw [hfull] at HAR2
      obtain ⟨Rows, hRows⟩ : ∃ Rows : List (List (BitVec 64)), Rows = (List.range M.rel.length).map fun i => prRow' M A L i := ⟨_, rfl⟩
      have hRl : Rows.length = M.rel.length := by rw [hRows]; simp
      have HRow : Hid (∀ k, k < M.rel.length → nth Rows k = prRow' M A L k) := Lib.hid fun k hk => by rw [hRows]; exact nth_mapX _ hk
      have HRe := Lib.hid hRows
      obtain ⟨m0, m1, m2, -⟩ := HOM.out.ext HW.out
      have ml := World.block_lt_of_cell? _ _ m0
      obtain ⟨i2, hj1, hy0, hy1, hy2⟩ := info_parts sl_info
      dsimp only at ml
      clear hfull hRows hk hkl
      go_wp2_with fail
      clear m0 m1 m2 ml
      go_loopw [87] (fun i wz => ∃ a : Nat, a ≤ M.rel.length ∧ i = .int .i64 (a : Int) ∧ Hid (PUR W0 (w3.heap.size + 1) L.length LV Rows a wz)) (fun i _ => M.rel.length - (RowKit.intOf i).toNat)
      case atStart => exact ⟨0, Nat.zero_le _, rfl, Lib.hid ⟨vv, [], .slice none 0 0, HAR2.out⟩⟩
      case round =>
        rename World => wa
        obtain ⟨a, ha, rfl, HR⟩ := hrel
        obtain ⟨vv2, svs, vr, hAR⟩ := HR.out
        have HAR3 := Lib.hid hAR
        have HXa := Lib.hid (HX5.out _ hAR.e)
        have HWa := Lib.hid (HW4.out.trans HXa.out)
        clear HR hAR
        by_cases hal : a < M.rel.length
        · obtain ⟨b, off, a', c', rfl, hb, hc, hu⟩ := (HM.out.rel.ext HWa.out).get hal
          have HU := Lib.hid hu
          have hb7 := (HB7.out.ext HXa.out).c
          have hl7 := World.block_lt_of_cell? _ _ hb7
          have mk1 := fun (w : World) => run_make_row' (P := Tryd.prog) 22 40 (.int .u64 0) 8 Tryd.underlying22 u64_info rfl .i64 .i64 L.length (by omega) (by omega) w
          have hul := hu.len
          clear hu
          dsimp only at hl7
          go_upto_region 25 with fail
          have hxb : Ext wa ((wa.alloc (.cells #[.int .i64 (a : Int)] 3)).alloc (.cells #[.slice a' (nth M.rel a).length c'] 22)) := ((Ext.refl wa).alloc _).alloc _
          have HXB := Lib.hid hxb
          have HBi := Lib.hid ((Bx1.new wa (.int .i64 (a : Int)) 3).ext ((Ext.refl _).alloc (.cells #[.slice a' (nth M.rel a).length c'] 22)))
          have HBr := Lib.hid ((Bx1.new (wa.alloc (.cells #[.int .i64 (a : Int)] 3)) (.slice a' (nth M.rel a).length c') 22).at (b' := wa.heap.size + 1) (by simp))
          have hb7' := hxb.cell hb7
          have hl7' := World.block_lt_of_cell? _ _ hb7'
          dsimp only at hl7'
          clear hxb hb7 hl7
          generalize (wa.alloc (.cells #[.int .i64 (a : Int)] 3)).alloc (.cells #[.slice a' (nth M.rel a).length c'] 22) = wb at *
          go_wp2_with fail
          clear mk1 hb7' hl7'
          obtain ⟨g, hg⟩ : ∃ g : Nat → BitVec 64, g = fun j => prR M A L a j := ⟨_, rfl⟩
          have HGE : Hid (∀ j, g j = prR M A L a j) := Lib.hid fun j => by rw [hg]
          have HGR : Hid (fillL g L.length L.length = nth Rows a) := Lib.hid (by rw [fillL_full, HRow.out a hal, hg]; rfl)
          have HFi := Lib.hid (FiA.made wb g L.length (by omega))
          clear hg
          generalize wb.alloc (.cells (madeCells #[.int .u64 0] L.length) 40) = wc at *
          go_loopw [97] (fun i wz => ∃ j : Nat, j ≤ L.length ∧ i = .int .i64 (j : Int) ∧ Hid (FiA wb g L.length j wz)) (fun i _ => L.length - (RowKit.intOf i).toNat)
          case atStart => exact ⟨0, Nat.zero_le _, rfl, HFi⟩
          case round =>
            clear HFi
            rename World => wz
            obtain ⟨j, hj, rfl, HFI⟩ := hrel
            have HXz := Lib.hid ((HXa.out.trans HXB.out).trans HFI.out.1)
            by_cases hjl : j < L.length
            · obtain ⟨b5, o5, hla, hb5, h50, h51⟩ := (HRP4.out.ext HXz.out).get' hjl
              subst hla
              have hd : Ext wz (wz.alloc (.cells #[.int .i64 ((nth L j).1 : Int), .int .i64 ((nth L j).2 : Int)] 99)) := (Ext.refl wz).alloc _
              have hbj := HLB.out j hjl
              have hrN : (nth M.rel a).length = N := HRW.out _ (nth_mem hal)
              have haA : a < A.rel.length := by rw [HAR.out]; exact hal
              have hrA : (nth A.rel a).length = A.pre.length := (HARR.out _ (nth_mem haA)).1
              have hwh : Calls Tryd.prog 63 #[.func (.func 66) #[] #[.pointer (some ⟨wa.heap.size + 1, 0, none⟩), .pointer (some ⟨wz.heap.size, 0, none⟩), .pointer (some ⟨w.heap.size + 1, 0, none⟩), .pointer (some ⟨wa.heap.size, 0, none⟩)], .pointer (some ⟨w3.heap.size, 0, none⟩)] (wz.alloc (.cells #[.int .i64 ((nth L j).1 : Int), .int .i64 ((nth L j).2 : Int)] 99)) fun r w' => r = .returned (.int .u64 (un (g j))) ∧ Ext (wz.alloc (.cells #[.int .i64 ((nth L j).1 : Int), .int .i64 ((nth L j).2 : Int)] 99)) w' := by
                rw [HGE.out j]
                refine where_any 66 [.pointer (some ⟨wa.heap.size + 1, 0, none⟩), .pointer (some ⟨wz.heap.size, 0, none⟩), .pointer (some ⟨w.heap.size + 1, 0, none⟩), .pointer (some ⟨wa.heap.size, 0, none⟩)] (fun q => prB M A a (nth L j) q) L _ lc w3.heap.size _ (HRP4.out.ext (HXz.out.trans hd)) ((HB7.out.ext (HXz.out.trans hd)).c) h64 cf_pu3 fun W q hW hq => ?_
                have hb := HLB.out q hq
                have hz := hd.trans hW
                have hzz := HXB.out.trans (HFI.out.1.trans hz)
                exact pu3_any (nth M.rel a) A.rel a' sa c' sc (wa.heap.size + 1) wz.heap.size (w.heap.size + 1) wa.heap.size a (nth L j).1 (nth L j).2 (nth L q).1 (nth L q).2 W (HU.out.ext hzz) (HA.out.rel.ext (HW4.out.trans (HXz.out.trans hz))) ((HBr.out.ext (HFI.out.1.trans hz)).c) (hW.cell (by simp)) (hW.cell (by simp)) ((HOA.out.ext (HW4.out.trans (HXz.out.trans hz))).c2) ((HBi.out.ext (HFI.out.1.trans hz)).c) (by omega) haA (by omega) (by omega) (by omega)
              have HWH := Lib.hid hwh
              have HFIz := Lib.hid (HFI.out.ext hd)
              clear hwh hd hrN haA hrA hbj
              go_wp2_with fail
              refine HWH.out.mono ?_
              rintro _ w7 ⟨rfl, hE7⟩
              have HFI7 := Lib.hid (HFIz.out.ext hE7)
              have kf := HFI7.out.2.frozen j
              have kl := HFI7.out.2.lt
              have kc := HFI7.out.2.cell hjl
              have HPT := Lib.hid HFI7.out.put
              clear hE7 h50 h51 hb5
              generalize nth (fillL g L.length j) j = Y at *
              change w7.cell? ⟨wb.heap.size, j, none⟩ = some (.int .u64 (un Y)) at kc
              dsimp only
              go_wp2_with fail
              go_roundw
              case rel => exact ⟨j + 1, hjl, by go_num, HPT⟩
              case measure => simp [RowKit.intOf]; omega
            · obtain rfl : j = L.length := by omega
              have hab : wa.heap.size ≤ wb.heap.size := HXB.out.size
              have hOU : OU wz wb.heap.size (.slice (some ⟨wb.heap.size, 0, none⟩) L.length L.length) (nth Rows a) := by
                rw [← HGR.out]; unfold OU; rw [fillL_len]; exact HFI.out.2.row
              have HAP := Lib.hid (HAR3.out.apart (OU.mono (b' := wa.heap.size) hOU hab))
              have HA3 := Lib.hid (HAR3.out.ext' (HXB.out.trans HFI.out.1))
              obtain ⟨o0, o1, o2, ofz⟩ := HA3.out.out
              have hsz3 := HA3.out.out.lt
              have hsz2 := HAR3.out.out.lt
              have hfz := ofz 2
              have hrl2 : svs.length = a := by rw [HA3.out.rl, List.length_take]; omega
              have HPA : Hid (∀ o, PU W0 (w3.heap.size + 1) L.length LV svs (Rows.take a) vv2 vr (wz.alloc o)) := Lib.hid fun o => HA3.out.ext' ((Ext.refl wz).alloc o)
              have hrow3 : OU wz (w3.heap.size + 1 + 1) (.slice (some ⟨wb.heap.size, 0, none⟩) L.length L.length) (nth Rows a) := OU.mono (b' := w3.heap.size + 1 + 1) hOU (by omega)
              have HR3 : Hid (∀ o, OU (wz.alloc o) (w3.heap.size + 1 + 1) (.slice (some ⟨wb.heap.size, 0, none⟩) L.length L.length) (nth Rows a)) := Lib.hid fun o => hrow3.ext ((Ext.refl wz).alloc o)
              have HONE : Hid (∀ u ∈ [Value.slice (some ⟨wb.heap.size, 0, none⟩) L.length L.length], u.oneCell' = true) := fun u hu => by
                rcases List.mem_singleton.1 hu with rfl
                rfl
              have hone : Rows.take (a + 1) = Rows.take a ++ [nth Rows a] := by
                rw [nth_eq _ _ (by omega), List.take_add_one, List.getElem?_eq_getElem (by omega)]; rfl
              have HONE1 := Lib.hid hone
              clear hrow3 hone hOU ofz
              go_wp2_with (at_builtin; refine wpList_append_lies _ rfl _ _ 23 rfl (w3.heap.size + 1 + 1) 22 i2 _ 1 24 Tryd.underlying23 hj1 hy0 hy1 hy2 rfl (by decide) vr svs.length svs rfl (HPA.out _).orr ⟨wz.heap.size, 0, none⟩ 1 1 [.slice (some ⟨wb.heap.size, 0, none⟩) L.length L.length] rfl rfl (cell_one_new _ _ _) HONE.out (by decide) (by unfold maxLen; omega) (by omega) (by simp; omega) (wz.heap.size + 1) (by simp) ?_; intro gx cap W1 hown hgrow hat hlt2; obtain ⟨p0, p1, p2, pfz⟩ := (HPA.out _).outR hgrow; have pf := pfz 2; clear pfz; have hnew := (HPA.out _).pushR (HR3.out _) HAP.out hown hgrow; have HNEW := Lib.hid hnew; clear hnew hown hgrow hat)
              go_roundw
              case rel => exact ⟨a + 1, hal, by go_num, Lib.hid ⟨_, _, _, by rw [HONE1.out]; rw [hrl2] at HNEW; exact HNEW.out⟩⟩
              case measure => simp [RowKit.intOf]; omega
        · obtain rfl : a = M.rel.length := by omega
          have hfull2 : Rows.take M.rel.length = Rows := List.take_of_length_le (by omega)
          rw [hfull2] at HAR3
          have hsl : svs.length = M.rel.length := by rw [HAR3.out.rl]; exact hRl
          clear hfull2
          obtain ⟨v1, vc1, hvv, hru⟩ := RU_of_OU (show OU wa (w3.heap.size + 1 + 1) vv2 LV from HAR3.out.ov) (by omega)
          obtain ⟨r1, rc1, hvr⟩ : ∃ a c, vr = .slice a M.rel.length c := by
            rcases HAR3.out.orr.2 with ⟨rfl, h0⟩ | ⟨g, cap, cur, rfl, _⟩
            · exact ⟨none, 0, by rw [← hsl, h0]⟩
            · exact ⟨some ⟨g, 0, none⟩, cap, by rw [hsl]⟩
          subst hvv
          subst hvr
          have hRk : ∀ j, j < Rows.length → (nth Rows j).length ≤ 140737488355328 := fun j hj => by
            rw [HRow.out j (by omega)]
            unfold prRow'
            simp
            omega
          have hs3 : w.heap.size + 3 ≤ w3.heap.size := HS3.out
          have HRM : Hid (RM (((wa.setCell ⟨w.heap.size + 1 + 1, 0, none⟩ (.int .i64 (L.length : Int))).setCell ⟨w.heap.size + 1 + 1, 1, none⟩ (.slice v1 M.val.length vc1)).setCell ⟨w.heap.size + 1 + 1, 2, none⟩ (.slice r1 M.rel.length rc1)).drew v1 r1 (prM M A L)) := Lib.hid (by
            have hk2 : ∀ {B T sz m : Nat} {v : Value} {xs : List Value}, w.heap.size + 3 ≤ B → wa.ownsRow B T sz v m xs → (((wa.setCell ⟨w.heap.size + 1 + 1, 0, none⟩ (.int .i64 (L.length : Int))).setCell ⟨w.heap.size + 1 + 1, 1, none⟩ (.slice v1 M.val.length vc1)).setCell ⟨w.heap.size + 1 + 1, 2, none⟩ (.slice r1 M.rel.length rc1)).ownsRow B T sz v m xs := by
              intro B T sz m v xs hB ho
              exact setOther (setOther (setOther ho (by omega)) (by omega)) (by omega)
            obtain ⟨v2, vc2, hv2, hru⟩ := RU_of_OU (show OU (((wa.setCell ⟨w.heap.size + 1 + 1, 0, none⟩ (.int .i64 (L.length : Int))).setCell ⟨w.heap.size + 1 + 1, 1, none⟩ (.slice v1 M.val.length vc1)).setCell ⟨w.heap.size + 1 + 1, 2, none⟩ (.slice r1 M.rel.length rc1)) (w3.heap.size + 1 + 1) (.slice v1 LV.length vc1) LV from hk2 (by omega) HAR3.out.ov) (by omega)
            simp only [Value.slice.injEq] at hv2
            obtain ⟨rfl, -, -⟩ := hv2
            have hrr : RR (((wa.setCell ⟨w.heap.size + 1 + 1, 0, none⟩ (.int .i64 (L.length : Int))).setCell ⟨w.heap.size + 1 + 1, 1, none⟩ (.slice v1 M.val.length vc1)).setCell ⟨w.heap.size + 1 + 1, 2, none⟩ (.slice r1 M.rel.length rc1)) r1 Rows := RR_of_rows (hk2 (by omega) HAR3.out.orr) HAR3.out.rl (fun j hj => hk2 (by omega) (HAR3.out.rw j hj)) (by omega) hRk
            refine RM.ext (Ext.refl _).drew ⟨?_, ?_⟩
            · show RU _ v1 ((List.range M.val.length).map fun i => prS M A L i)
              rw [← HLVe.out]; exact hru
            · show RR _ r1 ((List.range M.rel.length).map fun i => prRow' M A L i)
              rw [← HRe.out]; exact hrr)
          obtain ⟨o0, o1, o2, -⟩ := HAR3.out.out
          have hol := HAR3.out.out.lt
          rw [hLVl] at o1
          have HOF : Hid (OutAt wa (w.heap.size + 1 + 1) (.int .i64 0) (.slice none 0 0) (.slice none 0 0)) := Lib.hid (HOR3.out.ext (HX4.out.trans HXa.out))
          obtain ⟨r0, rr1, rr2, rfz⟩ := HOF.out
          have f0 := rfz 0
          have f1 := rfz 1
          have f2 := rfz 2
          have rl := HOF.out.lt
          have hb7 := (HB7.out.ext HXa.out).c
          have hl7 := World.block_lt_of_cell? _ _ hb7
          have HEW := Lib.hid (HE.out.trans HWa.out)
          dsimp only at hl7
          clear rfz hru hRk
          go_wp2_with fail
          go_region
          have hEx : Ext w (((wa.setCell ⟨w.heap.size + 1 + 1, 0, none⟩ (.int .i64 (L.length : Int))).setCell ⟨w.heap.size + 1 + 1, 1, none⟩ (.slice v1 M.val.length vc1)).setCell ⟨w.heap.size + 1 + 1, 2, none⟩ (.slice r1 M.rel.length rc1)).drew := (((HEW.out.setCell (by simp; omega) _).setCell (by simp; omega) _).setCell (by simp; omega) _).drew
          obtain ⟨d0, d1, d2, -⟩ := (((HOF.out.set0 (.int .i64 (L.length : Int))).set1 (.slice v1 M.val.length vc1)).set2 (.slice r1 M.rel.length rc1)).ext (Ext.refl _).drew
          generalize (((wa.setCell ⟨w.heap.size + 1 + 1, 0, none⟩ (.int .i64 (L.length : Int))).setCell ⟨w.heap.size + 1 + 1, 1, none⟩ (.slice v1 M.val.length vc1)).setCell ⟨w.heap.size + 1 + 1, 2, none⟩ (.slice r1 M.rel.length rc1)).drew = W2 at *
          go_wp2_with fail
          refine bodyPost_ret (v := .tuple #[.agg #[.int .i64 (L.length : Int), .slice v1 M.val.length vc1, .slice r1 M.rel.length rc1], .slice la L.length lc, .int .i64 0]) ?_ rfl ?_
          · rw [results_cell_two rfl]
            go_simp
          · exact ⟨.inr ⟨HL.out, v1, r1, la, vc1, rc1, lc, rfl, HRM.out⟩, hEx⟩
end Wt
