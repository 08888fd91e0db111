/- The reference's model as its relations are appended (printed by gen_frd.py). -/
import Derived.Test.YtbeaagnahldefaaGreatDoorM9Bm
import Derived.Test.YtbeaagnahldefaaGreatDoorM9Av
namespace Wt
open Go Go.RowKit Go.Maps Go.Proofs Fm

/-- A model in a box at block n, its sets in older memory, its rows so far. -/
structure ARq (W0 : World) (n len : Nat) (vv : Value) (svs : List Value) (rows : List (List (BitVec 64))) (vr : Value) (wr : World) : Prop where
  e : Below n W0 wr
  lo : n < W0.heap.size
  out : OutAt wr n (.int .i64 (len : Int)) vv vr
  orr : wr.ownsRow (n + 1) 22 1 vr svs.length svs
  rl : svs.length = rows.length
  rw : ∀ j, j < rows.length → OU wr (n + 1) (nth svs j) (nth rows j)
  dj : ∀ i j, i < j → j < svs.length → Apart (nth svs j) (nth svs i)
section
variable {W0 wr W1 : World} {n len : Nat} {svs : List Value} {rows : List (List (BitVec 64))} {vv vr v' : Value}
theorem ARq.start {wr : World} {x vv : Value} {len : Nat} (h : x = .int .i64 (len : Int)) : ARq (wr.alloc (.cells #[x, vv, .slice none 0 0] 25)) wr.heap.size len vv [] [] (.slice none 0 0) (wr.alloc (.cells #[x, vv, .slice none 0 0] 25)) :=
  ⟨Below.refl _ _, by simp, by rw [h]; exact OutAt.new wr _ _ _ _, World.ownsRow_nil _ _ _ _, rfl, fun j hj => absurd hj (by simp), fun i j _ hj => absurd hj (by simp)⟩
theorem ARq.ext' {w' : World} (h : ARq W0 n len vv svs rows vr wr) (e : Ext wr w') : ARq W0 n len vv svs rows vr w' := by
  have hk : ∀ {B T sz m : Nat} {v : Value} {xs : List Value}, wr.ownsRow B T sz v m xs → w'.ownsRow B T sz v m xs := fun {_ _ _ _ v _} ho => ho.kept (row := none) ⟨e.os, e.tape, e.output, e.size, fun k hk _ => e.block k hk⟩ (by cases v.ownBlock <;> simp)
  exact ⟨Below.trans h.e (Below.mono e (by have := h.out.lt; omega)), h.lo, h.out.keep (e.block _ h.out.lt), hk h.orr, h.rl, fun j hj => hk (h.rw j hj), h.dj⟩
/-- One more row. -/
theorem ARq.push (h : ARq W0 n len vv svs rows vr wr) {sv : Value} {r : List (BitVec 64)} (hs : OU wr (n + 1) sv r) (hd : ∀ j, j < svs.length → Apart sv (nth svs j)) (ho : W1.ownsRow (n + 1) 22 1 v' (svs.length + 1) (svs ++ [sv])) (g : wr.grownBy W1 vr.ownBlock) :
    ARq W0 n len vv (svs ++ [sv]) (rows ++ [r]) v' (W1.setCell ⟨n, 2, none⟩ v') := by
  have hr : ∀ k, vr.ownBlock = some k → n + 1 ≤ k := fun k hk => (h.orr.lt k hk).1
  have hb : W1.heap[n]? = wr.heap[n]? := g.block _ h.out.lt (fun e => by have := hr _ e.symm; omega)
  have hk : ∀ {m : Nat} {v : Value} {xs : List Value}, wr.ownsRow (n + 1) 39 1 v m xs → (W1.setCell ⟨n, 2, none⟩ v').ownsRow (n + 1) 39 1 v m xs := fun ho => setOther (ho.kept g (own_ne ho h.orr (by decide))) (by omega)
  refine ⟨(Below.grown h.e g (by have := h.out.lt; omega) (fun k hk => by have := hr k hk; omega)).setCell (by simp) _, h.lo, (h.out.keep hb).set2 v', ?_, by simp [h.rl], fun j hj => ?_, fun i j hij hj => ?_⟩
  · refine setOther ?_ (by omega)
    rw [List.length_append]; exact ho
  · by_cases hj2 : j < rows.length
    · rw [nth_appL _ _ (by rw [h.rl]; exact hj2), nth_appL _ _ hj2]; exact hk (h.rw j hj2)
    · have e : j = rows.length := by simp at hj; omega
      subst e
      have e1 := nth_appR svs [sv] (k := 0) (by simp)
      have e2 := nth_appR rows [r] (k := 0) (by simp)
      rw [Nat.add_zero, h.rl] at e1
      rw [Nat.add_zero] at e2
      rw [e1, e2]; exact hk hs
  · have hj : j < svs.length + 1 := by simpa using hj
    rw [nth_appL svs [sv] (k := i) (by omega)]
    by_cases hj2 : j < svs.length
    · rw [nth_appL _ _ hj2]; exact h.dj i j hij hj2
    · obtain rfl : j = svs.length := by omega
      have e1 := nth_appR svs [sv] (k := 0) (by simp)
      rw [Nat.add_zero] at e1
      rw [e1]; exact hd i hij
theorem ARq.apart {wz : World} {sv : Value} {r : List (BitVec 64)} (h : ARq W0 n len vv svs rows vr wr) (hs : OU wz wr.heap.size sv r) : ∀ j, j < svs.length → Apart sv (nth svs j) :=
  fun j hj => Apart.later hs fun b hb => ((h.rw j (by rw [← h.rl]; exact hj)).lt b hb).2
theorem ARq.outR (h : ARq W0 n len vv svs rows vr wr) (g : wr.grownBy W1 vr.ownBlock) : OutAt W1 n (.int .i64 (len : Int)) vv vr :=
  h.out.keep (g.block _ h.out.lt (fun e => by have := (h.orr.lt _ e.symm).1; omega))
end
/-- The rows so far. -/
def ARqE (W0 : World) (n len : Nat) (vv : Value) (Rows : List (List (BitVec 64))) (k : Nat) (wr : World) : Prop := ∃ svs vr, ARq W0 n len vv svs (Rows.take k) vr wr
theorem heap_newX (W : World) (o : Obj) : (W.alloc o).heap[W.heap.size]? = some o := by show (W.heap.push o)[W.heap.size]? = some o; simp
/-- What lay in a world lies there still, but for one block. -/
structure KeepB (n : Nat) (w3 wr : World) : Prop where
  size : w3.heap.size ≤ wr.heap.size
  keep : ∀ k, k < w3.heap.size → k ≠ n → wr.heap[k]? = w3.heap[k]?
theorem KeepB.refl (n : Nat) (w : World) : KeepB n w w := ⟨Nat.le_refl _, fun _ _ _ => rfl⟩
theorem KeepB.ext {n : Nat} {w3 wr w' : World} (h : KeepB n w3 wr) (e : Ext wr w') : KeepB n w3 w' :=
  ⟨Nat.le_trans h.size e.size, fun k hk hn => (e.block k (Nat.lt_of_lt_of_le hk h.size)).trans (h.keep k hk hn)⟩
theorem KeepB.put {n j : Nat} {w3 wr W1 : World} {v : Value} {r : Option Nat} (h : KeepB n w3 wr) (g : wr.grownBy W1 r) (hr : ∀ b, r = some b → w3.heap.size ≤ b) : KeepB n w3 (W1.setCell ⟨n, j, none⟩ v) := by
  refine ⟨by simp; exact Nat.le_trans h.size g.size, fun k hk hn => ?_⟩
  rw [heap_setCell_other _ ⟨n, j, none⟩ k _ (by simpa using hn), g.block k (Nat.lt_of_lt_of_le hk h.size) (fun e => by have := hr k e.symm; omega)]
  exact h.keep k hk hn
theorem KeepB.cell {n : Nat} {w3 wr : World} (h : KeepB n w3 wr) {p : Addr} {v : Value} (hp : p.block ≠ n) (hc : w3.cell? p = some v) : wr.cell? p = some v :=
  (World.cell?_of_block (h.keep _ (World.block_lt_of_cell? _ _ hc) hp)).trans hc
theorem KeepB.rn {n : Nat} {w3 wr : World} {a : Option Addr} {l : List Nd} {x y z : Value} {T : TypeId} {fr : Nat × Nat} (K : KeepB n w3 wr) (hb : w3.heap[n]? = some (.cells #[x, y, z] T fr)) (h : RN w3 a l) : RN wr a l := by
  refine ⟨h.len, fun k hk => ?_⟩
  obtain ⟨b, off, e, c0, c1, c2, c3, c4, c5⟩ := h.at_ k hk
  have hne : b ≠ n := by
    rintro rfl
    unfold World.cell? at c5
    rw [hb] at c5
    simp at c5
  exact ⟨b, off, e, K.cell hne c0, K.cell hne c1, K.cell hne c2, K.cell hne c3, K.cell hne c4, K.cell hne c5⟩
theorem KeepB.ru {n : Nat} {w3 wr : World} {a : Option Addr} {l : List (BitVec 64)} {x : Int} {p1 p2 : Option Addr} {n1 n2 c1 c2 : Nat} {T : TypeId} {fr : Nat × Nat} (K : KeepB n w3 wr) (hb : w3.heap[n]? = some (.cells #[.int .i64 x, .slice p1 n1 c1, .slice p2 n2 c2] T fr)) (h : RU w3 a l) : RU wr a l := by
  refine ⟨h.len, fun k hk => ?_⟩
  obtain ⟨b, off, e, c0⟩ := h.at_ k hk
  have hne : b ≠ n := by
    rintro rfl
    unfold World.cell? at c0
    rw [hb] at c0
    generalize off + k = j at c0
    match j with
    | 0 => simp at c0
    | 1 => simp at c0
    | 2 => simp at c0
    | j + 3 => simp at c0
  exact ⟨b, off, e, K.cell hne c0⟩
/-- The rounds of wittingref23.largest. -/
def LaE (w3 W0 : World) (n len : Nat) (vv : Value) (Rows : List (List (BitVec 64))) (k : Nat) (wr : World) : Prop := ∃ svs vr, ARq W0 n len vv svs (Rows.take k) vr wr ∧ KeepB n w3 wr ∧ ∀ b, vr.ownBlock = some b → w3.heap.size ≤ b
/-- The row of wittingref23.Smallest as it is filled. -/
def SmA (W0 : World) (M : Mo) (L : List (BitVec 64)) (N a x y n : Nat) (w : World) : Prop := Ext W0 w ∧ OG w W0.heap.size 39 uv W0.heap.size n n (smP M L N a x y)
theorem SmA.ext {W0 w w' : World} {M : Mo} {L : List (BitVec 64)} {N a x y n : Nat} (h : SmA W0 M L N a x y n w) (e : Ext w w') : SmA W0 M L N a x y n w' := ⟨h.1.trans e, h.2.ext e⟩
theorem SmA.put {W0 w : World} {M : Mo} {L : List (BitVec 64)} {N a x y n : Nat} (h : SmA W0 M L N a x y n w) (h64 : N ≤ 64) (hx : x < N) (hy : y < N) (hb : bt (nth (nth M.rel a) x) y = true) :
    SmA W0 M L N a x (y + 1) n (w.setCell ⟨W0.heap.size, clsOf L N x, none⟩ (.int .u64 (un (nth (smP M L N a x y) (clsOf L N x) ||| 1#64 <<< clsOf L N y)))) := by
  refine ⟨h.1.setCell (Nat.le_refl _) _, ?_⟩
  have h2 := h.2.set (clsOf L N x) (nth (smP M L N a x y) (clsOf L N x) ||| 1#64 <<< clsOf L N y)
  rw [← smP_yes (M := M) (L := L) (N := N) (a := a) h64 hx hy hb] at h2
  exact h2
theorem SmA.no {W0 w : World} {M : Mo} {L : List (BitVec 64)} {N a x y n : Nat} (h : SmA W0 M L N a x y n w) (hb : bt (nth (nth M.rel a) x) y = false) : SmA W0 M L N a x (y + 1) n w := by
  unfold SmA at h ⊢
  rw [smP_no (M := M) (L := L) (N := N) (a := a) hb]; exact h
theorem SmA.next {W0 w : World} {M : Mo} {L : List (BitVec 64)} {N a x n : Nat} (h : SmA W0 M L N a x N n w) : SmA W0 M L N a (x + 1) 0 n w := by
  unfold SmA at h ⊢
  rw [smP_row (M := M) (L := L) (N := N) (a := a) x] at h; exact h
end Wt

/- Walk: wittingref23.Smallest (printed by gen_frd.py). -/
namespace Wt
open Go Go.RowKit Go.Maps Go.Proofs Fm

theorem or_powM (x : BitVec 64) {q : Nat} (h : q < 64) : bits .or .u64 (un x) (IntKind.u64.wrap (2 ^ min q 64)) = un (x ||| 1#64 <<< q) := by
  rw [Nat.min_eq_left (by omega), or_powX x h]
theorem smP_len' (M : Mo) (L : List (BitVec 64)) (N a x y : Nat) : (smP M L N a x y).length = (repL L N).length := smP_len M L N a x y
set_option maxRecDepth 20000 in
set_option maxHeartbeats 16000000 in
theorem r23Smallest_any (M : Mo) (va ra : Option Addr) (vc rc : Nat) (fa : Option Addr) (fc : Nat) (f : List Nd) (w : World) (hm : RM w va ra M) (hf : RN w fa f) :
    Calls Tryz.prog 13 #[.agg #[.int .i64 M.worlds, .slice va M.val.length vc, .slice ra M.rel.length rc], .slice fa f.length fc] w fun e w' => RetR (filSm M f) (natI (filN M f)) (lookErr M f) e w w' := by
  obtain ⟨i3, hk1, hx0, hx1, hx2⟩ := info_parts sl_info
  have hE0 := ((Ext.refl w).alloc (.cells #[.int .i64 M.worlds, .slice va M.val.length vc, .slice ra M.rel.length rc] 25)).alloc (.cells #[.int .i64 0, .slice none 0 0, .slice none 0 0] 25)
  have hbx := (MoBox.new w M.worlds M.val M.rel va vc ra rc 25).ext ((Ext.refl _).alloc (.cells #[.int .i64 0, .slice none 0 0, .slice none 0 0] 25))
  have hr0 := OutAt.new1 w (.cells #[.int .i64 M.worlds, .slice va M.val.length vc, .slice ra M.rel.length rc] 25) (.int .i64 0) (.slice none 0 0) (.slice none 0 0) 25
  have HE := Lib.hid hE0
  have HM := Lib.hid (hm.ext hE0)
  have HF := Lib.hid (hf.ext hE0)
  have HB := Lib.hid hbx
  have HR := Lib.hid hr0
  have hs0 : ((w.alloc (.cells #[.int .i64 M.worlds, .slice va M.val.length vc, .slice ra M.rel.length rc] 25)).alloc (.cells #[.int .i64 0, .slice none 0 0, .slice none 0 0] 25)).heap.size = w.heap.size + 2 := by simp
  have HSZ := Lib.hid hs0
  obtain ⟨m0, m1, m2⟩ := hbx
  dsimp only at m0 m1 m2
  clear hE0 hf hm hr0 hs0
  have HRQ : Hid (∀ W, RM W va ra M → RN W fa f → Calls Tryz.prog 30 #[.agg #[.int .i64 M.worlds, .slice va M.val.length vc, .slice ra M.rel.length rc], .slice fa f.length fc] W fun e w' => e = .returned (.int .i64 (lookErr M f)) ∧ Ext W w') := Lib.hid fun W h1 h2 => r23request_any M va ra vc rc fa fc f W h1 h2
  by_cases hl : lookErr M f = 0
  · obtain ⟨N, vk⟩ := vok_of hl
    have HL := Lib.hid hl
    have h64 := vk.vw.ok.most
    have hwN : M.worlds = (N : Int) := vk.vw.ok.worlds
    have hv8 : M.val.length ≤ 8 := vk.vw.ok.val
    have hr4 : M.rel.length ≤ 4 := vk.vw.ok.rel
    have HOK := Lib.hid vk.vw.ok
    have HWN := Lib.hid hwN
    have HC : Hid (filN M f = (List.range N).map (clsOf (subL M (rt f)) N)) := Lib.hid (by unfold filN; rw [if_pos hl, vk.nn])
    have HA : Hid (filSm M f = filM M (fFacts f) (repL (subL M (rt f)) N) (relS M (subL M (rt f)) N)) := Lib.hid (by unfold filSm; rw [if_pos hl, vk.nn])
    have HBA : Hid (∀ W, RM W va ra M → RN W fa f → Calls Tryz.prog 36 #[.agg #[.int .i64 M.worlds, .slice va M.val.length vc, .slice ra M.rel.length rc], .slice fa f.length fc] W fun e w' => RetBa (filV M (fFacts f) (repL (subL M (rt f)) N)) ((List.range N).map (clsOf (subL M (rt f)) N)) (repL (subL M (rt f)) N) e W w') := Lib.hid fun W h1 h2 => by
      have h3 := r23base_any M va ra vc rc fa fc f W h1 h2 hl
      rw [vk.nn, show filN M f = (List.range N).map (clsOf (subL M (rt f)) N) by unfold filN; rw [if_pos hl, vk.nn]] at h3
      exact h3
    clear vk hwN
    rw [HL.out]
    generalize hLg : subL M (rt f) = L at *
    clear hLg
    go_enter Tryz.func13, Tryz.ntmps13
    go_wp2_with fail
    generalize (w.alloc (.cells #[.int .i64 M.worlds, .slice va M.val.length vc, .slice ra M.rel.length rc] 25)).alloc (.cells #[.int .i64 0, .slice none 0 0, .slice none 0 0] 25) = w0 at *
    refine (HRQ.out _ HM.out HF.out).mono ?_
    rintro _ wb ⟨rfl, hEb⟩
    rw [HL.out]
    have HEb := Lib.hid hEb
    obtain ⟨p0, p1, p2⟩ := HB.out.ext hEb
    clear m0 m1 m2 hEb
    dsimp only at p0 p1 p2 ⊢
    go_wp2_with fail
    refine (HBA.out _ (HM.out.ext HEb.out) (HF.out.ext HEb.out)).mono ?_
    rintro _ w1 ⟨v1, vc1, la1, lc1, ca1, cc1, rfl, hk1b, hE1⟩
    clear p0 p1 p2
    have HK1 := Lib.hid hk1b
    have HE1 := Lib.hid hE1
    have hvl : (filV M (fFacts f) (repL L N)).length = M.val.length := by simp [filV]
    rw [hvl, cls_ln]
    generalize hV : filV M (fFacts f) (repL L N) = V at *
    have HVe : Hid ((filM M (fFacts f) (repL L N) (relS M L N)).val = V) := Lib.hid hV
    have HVl := Lib.hid hvl
    have hri := (hk1b w1 (fun _ _ _ => rfl)).2
    have HRL := Lib.hid hri.2
    have HRC := Lib.hid hri.1
    have hrep : (repL L N).length ≤ N := repL_len L N
    have HCLT : Hid (∀ x, x < N → clsOf L N x < (repL L N).length) := Lib.hid fun x hx => clsOf_lt L hx
    have HSM0 : Hid (∀ q, smP M L N q 0 0 = List.replicate (repL L N).length 0#64) := Lib.hid fun q => smP_zero M L N q
    have HSMN : Hid (∀ q, smP M L N q N 0 = (repL L N).map fun x => setTo (fun d => relS M L N q x (nth (repL L N) d)) (repL L N).length) := Lib.hid fun q => smP_done M L N q h64
    have HSML : Hid (∀ q x y, (smP M L N q x y).length = (repL L N).length) := Lib.hid fun q x y => smP_len' M L N q x y
    have hRl : (filM M (fFacts f) (repL L N) (relS M L N)).rel.length = M.rel.length := by simp [filM, filR]
    generalize hRows : (filM M (fFacts f) (repL L N) (relS M L N)).rel = Rows at *
    have HRow : Hid (∀ a, a < M.rel.length → nth Rows a = smP M L N a N 0) := Lib.hid fun a ha => by rw [HSMN.out, ← hRows]; exact nth_mapX _ ha
    have HRe := Lib.hid hRows
    clear hV hvl hri hk1b hE1 hRows
    have hN0 : w.heap.size + 2 ≤ wb.heap.size := by rw [← HSZ.out]; exact HEb.out.size
    have HN0 := Lib.hid hN0
    have HN1 := Lib.hid HE1.out.size
    have HEW1 := Lib.hid ((HE.out.trans HEb.out).trans HE1.out)
    have HB1 := Lib.hid ((HB.out.ext HEb.out).ext HE1.out)
    have HM1 := Lib.hid ((HM.out.ext HEb.out).ext HE1.out)
    have HR1 := Lib.hid ((HR.out.ext HEb.out).ext HE1.out)
    have HA0 := Lib.hid (ARq.start (wr := w1) (vv := .slice v1 M.val.length vc1) (len := (repL L N).length) rfl)
    have HEW := Lib.hid ((Ext.refl w1).alloc (.cells #[.int .i64 ((repL L N).length : Int), .slice v1 M.val.length vc1, .slice none 0 0] 25))
    clear hN0
    generalize repL L N = reps at *
    dsimp only
    go_wp2_with fail
    generalize w1.alloc (.cells #[.int .i64 (reps.length : Int), .slice v1 M.val.length vc1, .slice none 0 0] 25) = W0 at *
    have HX : Hid (∀ w', Below w1.heap.size W0 w' → Ext w1 w') := Lib.hid fun w' e => Below.trans HEW.out e
    have HRz : Hid (∀ w', Ext w1 w' → OutAt w' (w.heap.size + 1) (.int .i64 0) (.slice none 0 0) (.slice none 0 0)) := Lib.hid fun w' e => HR1.out.ext e
    go_loopw [11] (fun i wr => ∃ a : Nat, a ≤ M.rel.length ∧ i = .int .i64 (a : Int) ∧ Hid (ARqE W0 w1.heap.size reps.length (.slice v1 M.val.length vc1) Rows a wr)) (fun i _ => M.rel.length - (RowKit.intOf i).toNat)
    case atStart => exact ⟨0, Nat.zero_le _, rfl, Lib.hid ⟨_, _, HA0.out⟩⟩
    case round =>
      rename World => wa
      obtain ⟨a, ha, rfl, HAE⟩ := hrel
      obtain ⟨svs, vr, hAR⟩ := HAE.out
      have HAR := Lib.hid hAR
      clear HAE hAR
      obtain ⟨d0, d1, d2⟩ := HB1.out.ext (HX.out _ HAR.out.e)
      dsimp only at d0 d1 d2
      have dlt := World.block_lt_of_cell? _ _ d2
      dsimp only at dlt
      by_cases hal : a < M.rel.length
      · have mk1 := fun (w : World) => run_make_row' (P := Tryz.prog) 22 39 (.int .u64 0) 8 Tryz.underlying22 u64_info rfl .i64 .i64 reps.length (by omega) (by omega) w
        go_wp2_with fail
        clear mk1 d0 d1 d2 dlt
        have hK0 : SmA wa M L N a 0 0 reps.length (wa.alloc (.cells (madeCells #[.int .u64 0] reps.length) 39)) := ⟨(Ext.refl wa).alloc _, by rw [HSM0.out]; exact OG.made (enc := uv) wa reps.length 0#64 (Nat.le_refl _) (by omega)⟩
        have HK0 := Lib.hid hK0
        clear hK0
        generalize wa.alloc (.cells (madeCells #[.int .u64 0] reps.length) 39) = wc at *
        go_loopw [13] (fun i wz => ∃ x : Nat, x ≤ N ∧ i = .int .i64 (x : Int) ∧ Hid (SmA wa M L N a x 0 reps.length wz)) (fun i _ => N - (RowKit.intOf i).toNat)
        case atStart => exact ⟨0, Nat.zero_le _, rfl, HK0⟩
        case round =>
          clear HK0
          rename World => wz
          obtain ⟨x, hx, rfl, HSA⟩ := hrel
          obtain ⟨c0, c1, c2⟩ := HB1.out.ext ((HX.out _ HAR.out.e).trans HSA.out.1)
          dsimp only at c0 c1 c2
          rw [HWN.out] at c0
          have clt := World.block_lt_of_cell? _ _ c0
          dsimp only at clt
          by_cases hxN : x < N
          · go_wp2_with fail
            clear c0 c1 c2 clt
            go_loopw [14] (fun i wy => ∃ y : Nat, y ≤ N ∧ i = .int .i64 (y : Int) ∧ Hid (SmA wa M L N a x y reps.length wy)) (fun i _ => N - (RowKit.intOf i).toNat)
            case atStart => exact ⟨0, Nat.zero_le _, rfl, HSA⟩
            case round =>
              clear HSA
              rename World => wy
              obtain ⟨y, hy, rfl, HSA⟩ := hrel
              obtain ⟨c0, c1, c2⟩ := HB1.out.ext ((HX.out _ HAR.out.e).trans HSA.out.1)
              dsimp only at c0 c1 c2
              rw [HWN.out] at c0
              have clt := World.block_lt_of_cell? _ _ c0
              dsimp only at clt
              by_cases hyN : y < N
              · obtain ⟨b2, o2, a', c', hra, hb2, hc2, hr⟩ := (HM1.out.rel.ext ((HX.out _ HAR.out.e).trans HSA.out.1)).get hal
                obtain ⟨b3, o3, ha3, hb3, hc3⟩ := hr.get (k := x) (by rw [HOK.out.row _ (nth_mem hal)]; exact hxN)
                subst hra
                subst ha3
                have hrl : (nth M.rel a).length = N := HOK.out.row _ (nth_mem hal)
                rw [hrl] at hc2
                have hyi : y < 64 := by omega
                have HIN : Hid (∀ W, Calls Tryz.prog 33 #[.int .u64 (un (nth (nth M.rel a) x)), .int .i64 (y : Int)] W fun e w' => e = .returned (.bool (bt (nth (nth M.rel a) x) y)) ∧ W = w') := Lib.hid fun W => r2In_any _ _ W hyi
                have HYES : Hid (bt (nth (nth M.rel a) x) y = true → SmA wa M L N a x (y + 1) reps.length (wy.setCell ⟨wa.heap.size, clsOf L N x, none⟩ (.int .u64 (un (nth (smP M L N a x y) (clsOf L N x) ||| 1#64 <<< clsOf L N y))))) := Lib.hid fun h => HSA.out.put h64 hxN hyN h
                have HNO : Hid (bt (nth (nth M.rel a) x) y = false → SmA wa M L N a x (y + 1) reps.length wy) := Lib.hid fun h => HSA.out.no h
                generalize nth (nth M.rel a) x = S at *
                go_wp2_with fail
                clear c0 c1 c2 clt hc2 hc3 hb2 hb3
                refine (HIN.out _).mono ?_
                rintro _ _ ⟨rfl, rfl⟩
                cases hbt : bt S y
                · have HN := Lib.hid (HNO.out hbt)
                  clear hbt
                  dsimp only
                  go_wp2_with fail
                  go_roundw
                  case rel => exact ⟨y + 1, hyN, by go_num, HN⟩
                  case measure => simp [RowKit.intOf]; omega
                · have HY := Lib.hid (HYES.out hbt)
                  clear hbt
                  dsimp only
                  have hcx := HCLT.out x hxN
                  have hcy := HCLT.out y hyN
                  obtain ⟨b4, o4, ha4, hb4, hc4⟩ := (HRC.out.ext ((HX.out _ HAR.out.e).trans HSA.out.1)).get (k := x) (by rw [natI_ln, cls_ln]; exact hxN)
                  obtain ⟨b5, o5, ha5, hb5, hc5⟩ := (HRC.out.ext ((HX.out _ HAR.out.e).trans HSA.out.1)).get (k := y) (by rw [natI_ln, cls_ln]; exact hyN)
                  rw [nth_natI (by rw [cls_ln]; exact hxN), nth_mapX _ hxN] at hc4
                  rw [nth_natI (by rw [cls_ln]; exact hyN), nth_mapX _ hyN] at hc5
                  have kf := HSA.out.2.frozen (clsOf L N x)
                  have kl := HSA.out.2.lt
                  have kc := HSA.out.2.cell hcx
                  subst ha4
                  simp only [Option.some.injEq, Addr.mk.injEq] at ha5
                  obtain ⟨rfl, rfl, -⟩ := ha5
                  have hcy64 : clsOf L N y < 64 := by omega
                  generalize nth (smP M L N a x y) (clsOf L N x) = X at *
                  change wy.cell? ⟨wa.heap.size, clsOf L N x, none⟩ = some (.int .u64 (un X)) at kc
                  generalize clsOf L N x = p at *
                  generalize clsOf L N y = q at *
                  go_wp2_with fail
                  refine wp_region_still_tail 15 (by kernel_rfl) (by kernel_rfl) ?_
                  simp only [List.take_succ_cons, List.take_zero, List.drop_succ_cons, List.drop_zero]
                  repeat still_step
                  refine wpStill_nil ?_
                  have kf' : wy.drew.frozen? ⟨wa.heap.size, p, none⟩ = false := kf
                  have kc' : wy.drew.cell? ⟨wa.heap.size, p, none⟩ = some (.int .u64 (un X)) := kc
                  change wpList _ _ _ _ _ wy.drew
                  go_wp2
                  go_roundw
                  case rel => exact ⟨y + 1, hyN, by go_num, Lib.hid (by have h := HY.out; rw [← or_powM X hcy64] at h; exact h.ext (Ext.refl _).drew)⟩
                  case measure => simp [RowKit.intOf]; omega
              · obtain rfl : y = N := by omega
                have HSB := Lib.hid HSA.out.next
                clear HSA
                go_wp2_with fail
                go_roundw
                case rel => exact ⟨x + 1, hxN, by go_num, HSB⟩
                case measure => simp [RowKit.intOf]; omega
          · obtain rfl : x = N := by omega
            have hOU : OU wz wa.heap.size (.slice (some ⟨wa.heap.size, 0, none⟩) reps.length reps.length) (nth Rows a) := by
              rw [HRow.out a hal]; unfold OU; rw [HSML.out]; exact HSA.out.2.row
            have HAP := Lib.hid (HAR.out.apart hOU)
            have HA3 := Lib.hid (HAR.out.ext' HSA.out.1)
            obtain ⟨o0, o1, o2, ofz⟩ := HA3.out.out
            have hsz3 := HA3.out.out.lt
            have hsz2 := HAR.out.out.lt
            have hfz := ofz 2
            have hrl2 : svs.length = a := by rw [HA3.out.rl, List.length_take]; omega
            have HPA : Hid (∀ o, ARq W0 w1.heap.size reps.length (.slice v1 M.val.length vc1) svs (Rows.take a) vr (wz.alloc o)) := Lib.hid fun o => HA3.out.ext' ((Ext.refl wz).alloc o)
            have hrow3 : OU wz (w1.heap.size + 1) (.slice (some ⟨wa.heap.size, 0, none⟩) reps.length reps.length) (nth Rows a) := OU.mono (b' := w1.heap.size + 1) hOU (by omega)
            have HR3 : Hid (∀ o, OU (wz.alloc o) (w1.heap.size + 1) (.slice (some ⟨wa.heap.size, 0, none⟩) reps.length reps.length) (nth Rows a)) := Lib.hid fun o => hrow3.ext ((Ext.refl wz).alloc o)
            have HONE : Hid (∀ u ∈ [Value.slice (some ⟨wa.heap.size, 0, none⟩) reps.length reps.length], u.oneCell' = true) := fun u hu => by
              rcases List.mem_singleton.1 hu with rfl
              rfl
            have hone : Rows.take (a + 1) = Rows.take a ++ [nth Rows a] := by
              rw [nth_eq _ _ (by omega), List.take_add_one, List.getElem?_eq_getElem (by omega)]; rfl
            have HONE1 := Lib.hid hone
            clear hrow3 hone hOU ofz HSA
            go_wp2_with (at_builtin; refine wpList_append_lies _ rfl _ _ 23 rfl (w1.heap.size + 1) 22 i3 _ 1 24 Tryz.underlying23 hk1 hx0 hx1 hx2 rfl (by decide) vr svs.length svs rfl (HPA.out _).orr ⟨wz.heap.size, 0, none⟩ 1 1 [.slice (some ⟨wa.heap.size, 0, none⟩) reps.length reps.length] rfl rfl (cell_one_new _ _ _) HONE.out (by decide) (by unfold maxLen; omega) (by omega) (by simp; omega) (wz.heap.size + 1) (by simp) ?_; intro gx cap W1 hown hgrow hat hlt2; obtain ⟨p0, p1, p2, pfz⟩ := (HPA.out _).outR hgrow; have pf := pfz 2; clear pfz; have hnew := (HPA.out _).push (HR3.out _) HAP.out hown hgrow; have HNEW := Lib.hid hnew; clear hnew hown hgrow hat)
            go_roundw
            case rel => exact ⟨a + 1, hal, by go_num, Lib.hid ⟨_, _, by rw [HONE1.out]; rw [hrl2] at HNEW; exact HNEW.out⟩⟩
            case measure => simp [RowKit.intOf]; omega
      · obtain rfl : a = M.rel.length := by omega
        have hfull2 : Rows.take M.rel.length = Rows := List.take_of_length_le (by omega)
        rw [hfull2] at HAR
        have hsl : svs.length = M.rel.length := by rw [HAR.out.rl]; exact hRl
        clear hfull2
        obtain ⟨r1, rc1, rfl⟩ : ∃ a c, vr = .slice a M.rel.length c := by
          rcases HAR.out.orr.2 with ⟨rfl, h0⟩ | ⟨g, cap, cur, rfl, _⟩
          · exact ⟨none, 0, by rw [← hsl, h0]⟩
          · exact ⟨some ⟨g, 0, none⟩, cap, by rw [hsl]⟩
        obtain ⟨o0, o1, o2, ofz⟩ := HAR.out.out
        have hol := HAR.out.out.lt
        have HH := Lib.hid (HRz.out _ (HX.out _ HAR.out.e))
        obtain ⟨r0, rr1, rr2, rfz⟩ := HH.out
        have f0 := rfz 0
        have f1 := rfz 1
        have f2 := rfz 2
        have hrl9 := HH.out.lt
        clear ofz rfz
        go_wp2_with fail
        have hn0 := HN0.out
        have hn1 := HN1.out
        have hk2 : ∀ {B T sz m : Nat} {v : Value} {xs : List Value}, w.heap.size + 2 ≤ B → wa.ownsRow B T sz v m xs → (((wa.setCell ⟨w.heap.size + 1, 0, none⟩ (.int .i64 (reps.length : Int))).setCell ⟨w.heap.size + 1, 1, none⟩ (.slice v1 M.val.length vc1)).setCell ⟨w.heap.size + 1, 2, none⟩ (.slice r1 M.rel.length rc1)).ownsRow B T sz v m xs := by
          intro B T sz m v xs hB ho
          exact setOther (setOther (setOther ho (by omega)) (by omega)) (by omega)
        have hA1 : Agree wb.heap.size w1 (((wa.setCell ⟨w.heap.size + 1, 0, none⟩ (.int .i64 (reps.length : Int))).setCell ⟨w.heap.size + 1, 1, none⟩ (.slice v1 M.val.length vc1)).setCell ⟨w.heap.size + 1, 2, none⟩ (.slice r1 M.rel.length rc1)) := fun k hk1 hk2 => by
          rw [heap_setCell_other _ ⟨_, 2, none⟩ k _ (by simp; omega), heap_setCell_other _ ⟨_, 1, none⟩ k _ (by simp; omega), heap_setCell_other _ ⟨_, 0, none⟩ k _ (by simp; omega)]
          exact (HX.out _ HAR.out.e).block k hk2
        have hl3 := hk2 (B := w1.heap.size + 1) (by omega) HAR.out.orr
        have hl4 := fun j hj => hk2 (B := w1.heap.size + 1) (by omega) (HAR.out.rw j hj)
        obtain ⟨d0, d1, d2, -⟩ := ((HH.out.set0 (.int .i64 (reps.length : Int))).set1 (.slice v1 M.val.length vc1)).set2 (.slice r1 M.rel.length rc1)
        have hEx : Ext w (((wa.setCell ⟨w.heap.size + 1, 0, none⟩ (.int .i64 (reps.length : Int))).setCell ⟨w.heap.size + 1, 1, none⟩ (.slice v1 M.val.length vc1)).setCell ⟨w.heap.size + 1, 2, none⟩ (.slice r1 M.rel.length rc1)) := (((HEW1.out.trans (HX.out _ HAR.out.e)).setCell (by simp) _).setCell (by simp) _).setCell (by simp) _
        have hsz1 : w1.heap.size ≤ wa.heap.size := (HX.out _ HAR.out.e).size
        have hszW : (((wa.setCell ⟨w.heap.size + 1, 0, none⟩ (.int .i64 (reps.length : Int))).setCell ⟨w.heap.size + 1, 1, none⟩ (.slice v1 M.val.length vc1)).setCell ⟨w.heap.size + 1, 2, none⟩ (.slice r1 M.rel.length rc1)).heap.size = wa.heap.size := by simp
        generalize ((wa.setCell ⟨w.heap.size + 1, 0, none⟩ (.int .i64 (reps.length : Int))).setCell ⟨w.heap.size + 1, 1, none⟩ (.slice v1 M.val.length vc1)).setCell ⟨w.heap.size + 1, 2, none⟩ (.slice r1 M.rel.length rc1) = W2 at *
        refine bodyPost_ret (v := .tuple #[.agg #[.int .i64 (reps.length : Int), .slice v1 M.val.length vc1, .slice r1 M.rel.length rc1], .slice ca1 N cc1, .int .i64 0]) ?_ rfl ?_
        · rw [results_cell_two rfl]
          go_simp
        · have e1 : (filM M (fFacts f) reps (relS M L N)).val = V := HVe.out
          have e2 : (filM M (fFacts f) reps (relS M L N)).rel = Rows := HRe.out
          have e3 : (filM M (fFacts f) reps (relS M L N)).worlds = (reps.length : Int) := rfl
          have hvl : V.length = M.val.length := HVl.out
          have hF : FrM w.heap.size W2 v1 r1 vc1 rc1 (filM M (fFacts f) reps (relS M L N)) svs := by
            refine ⟨?_, ?_, ?_, ?_, HAR.out.dj, ?_, ?_⟩
            · rw [e1]; exact OU.mono (b' := w.heap.size) (HK1.out W2 hA1).1 (by omega)
            · rw [e2, hRl]; exact own_mono hl3 (by omega)
            · rw [e2]; exact HAR.out.rl
            · rw [e2]; exact fun j hj => OU.mono (b' := w.heap.size) (show OU W2 (w1.heap.size + 1) _ _ from hl4 j hj) (by omega)
            · rw [e1, hvl]
              intro j hj
              have hlo := HK1.out w1 (fun _ _ _ => rfl)
              rw [hvl] at hlo
              exact Apart.later (hl4 j (by rw [← HAR.out.rl]; exact hj)) fun b hb => by have := (hlo.1.lt b hb).2; omega
            · rw [e1, e2]; exact ⟨by omega, by omega, fun j hj => by rw [HRow.out j (by omega), HSML.out]; omega⟩
          rw [HA.out, HC.out]
          refine ⟨v1, r1, ca1, vc1, rc1, cc1, ?_, fun w'' hag => ⟨(hF.agree hag).rm, ?_⟩, hEx⟩
          · rw [e1, e2, hvl, hRl, natI_ln, cls_ln]
            rfl
          · refine (HK1.out w'' fun k hk1 hk2 => ?_).2.1
            rw [hag k (by omega) (by omega)]
            exact hA1 k hk1 hk2
  · have HC : Hid (filN M f = []) := Lib.hid (if_neg hl)
    have HA : Hid (filSm M f = ⟨0, [], []⟩) := Lib.hid (if_neg hl)
    have hq : (lookErr M f != 0) = true := by simpa using hl
    clear hl
    generalize hle : lookErr M f = er at *
    clear hle
    go_enter Tryz.func13, Tryz.ntmps13
    go_wp2_with fail
    generalize (w.alloc (.cells #[.int .i64 M.worlds, .slice va M.val.length vc, .slice ra M.rel.length rc] 25)).alloc (.cells #[.int .i64 0, .slice none 0 0, .slice none 0 0] 25) = w0 at *
    refine (HRQ.out _ HM.out HF.out).mono ?_
    rintro _ w1 ⟨rfl, hE1⟩
    have HH := Lib.hid (HR.out.ext hE1)
    have HE1 := Lib.hid (HE.out.trans hE1)
    clear hE1 m0 m1 m2
    obtain ⟨r0, rr1, rr2, rfz⟩ := HH.out
    have f0 := rfz 0
    have f1 := rfz 1
    have f2 := rfz 2
    have hrl9 := HH.out.lt
    clear rfz
    dsimp only
    go_wp2_with fail
    obtain ⟨d0, d1, d2, -⟩ := ((HH.out.set0 (.int .i64 0)).set1 (.slice none 0 0)).set2 (.slice none 0 0)
    have hEx : Ext w ((((w1.setCell ⟨w.heap.size + 1, 0, none⟩ (.int .i64 0)).setCell ⟨w.heap.size + 1, 1, none⟩ (.slice none 0 0)).setCell ⟨w.heap.size + 1, 2, none⟩ (.slice none 0 0))) := (((HE1.out.setCell (by simp) _).setCell (by simp) _).setCell (by simp) _)
    generalize (((w1.setCell ⟨w.heap.size + 1, 0, none⟩ (.int .i64 0)).setCell ⟨w.heap.size + 1, 1, none⟩ (.slice none 0 0)).setCell ⟨w.heap.size + 1, 2, none⟩ (.slice none 0 0)) = W2 at *
    refine bodyPost_ret (v := .tuple #[.agg #[.int .i64 0, .slice none 0 0, .slice none 0 0], .slice none 0 0, .int .i64 er]) ?_ rfl ?_
    · rw [results_cell_two rfl]
      go_simp
    · rw [HA.out, HC.out]
      exact ⟨none, none, none, 0, 0, 0, rfl, fun w'' _ => ⟨⟨RU.nil _ _, RR.nil _ _⟩, RI.nil _ _⟩, hEx⟩
end Wt
