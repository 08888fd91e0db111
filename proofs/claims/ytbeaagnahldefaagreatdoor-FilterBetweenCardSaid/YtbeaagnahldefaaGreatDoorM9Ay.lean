/- Walk: wittingref05.finish (printed by gen_rff.py). -/
import Derived.Test.YtbeaagnahldefaaGreatDoorM9Ak
import Derived.Test.YtbeaagnahldefaaGreatDoorM9Ax
import Derived.Deep.RegionHeld3
namespace Wt
open Go Go.RowKit Go.Maps Go.Proofs Fm

def FinRPost (w : World) (wb g c : Nat) (l : List Nd) (i : Nat) (W : World) (L : List Fm) (v : Value) (_D : List Int) (e : Ending) (W' : World) : Prop :=
  ∃ v' D', e = .returned (.int .i64 (idx (addT (trAt l i) L) (trAt l i))) ∧ RS w wb g c l W' (addT (trAt l i) L) v' D' ∧ FR wb g v W W' v'
/-- What a call of finish at a node does. -/
def FinR (w : World) (wb g c : Nat) (fa : Option Addr) (fc : Nat) (l : List Nd) (i : Nat) : Prop :=
  ∀ W L v D, RS w wb g c l W L v D →
    Calls Tryz.prog 107 #[.slice fa l.length fc, .int .i64 (i : Int), .pointer (some ⟨wb, 0, none⟩)] W (FinRPost w wb g c l i W L v D)
set_option maxRecDepth 20000 in
set_option maxHeartbeats 2000000 in
theorem r5finish_done {w : World} {wb g c : Nat} {fa : Option Addr} {fc : Nat} {l : List Nd} {W : World} {L : List Fm} {v : Value} {D : List Int} (h : RS w wb g c l W L v D) (i : Nat) (hi : i < l.length) (hD : nth D i ≠ -1) (_hl : l.length ≤ 1000) :
    Calls Tryz.prog 107 #[.slice fa l.length fc, .int .i64 (i : Int), .pointer (some ⟨wb, 0, none⟩)] W (FinRPost w wb g c l i W L v D) := by
  rcases h.dD i hi with h1 | ⟨hm, h2⟩
  · exact absurd h1 hD
  have hp : FinRPost w wb g c l i W L v D (.returned (.int .i64 (idx L (trAt l i)))) W := by
    unfold FinRPost
    rw [addT_of_mem _ h.cl hm]
    exact ⟨v, D, rfl, h, FR.refl _ _ _ _⟩
  have c1 := h.cd
  have c2 := h.dn.cell hi
  rw [h2] at c2
  have HP := Lib.hid hp
  clear hp h h2 hm hD
  go_enter Tryz.func107, Tryz.ntmps107
  go_wp2
  go_ret
  exact HP.out
set_option maxRecDepth 20000 in
set_option maxHeartbeats 4000000 in
theorem r5finish_leaf {w : World} {wb g c : Nat} {fa : Option Addr} {fc : Nat} {l : List Nd} {W : World} {L : List Fm} {v : Value} {D : List Int} (hr : RN w fa l) (hw : Wf l) (h : RS w wb g c l W L v D) (i : Nat) (hi : i < l.length) (hD : nth D i = -1) (hl : l.length ≤ 1000)
    (hux : (useOf (nth l i).op).1.x = false) (huy : (useOf (nth l i).op).1.y = false) :
    Calls Tryz.prog 107 #[.slice fa l.length fc, .int .i64 (i : Int), .pointer (some ⟨wb, 0, none⟩)] W (FinRPost w wb g c l i W L v D) := by
  have hok : fok (trAt l i) := fok_trAt hw _ i (Nat.lt_succ_self i) hi
  have hrange : trAt l i ∈ (List.range l.length).map (trAt l) := List.mem_map.2 ⟨i, by simpa using hi, rfl⟩
  have ht : trAt l i = .leaf (nth l i).op (nth l i).i (nth l i).e (nth l i).g := trAt_leaf hi hux
  have hnd : ndOf L (trAt l i) = nth l i := by
    rw [ht]
    have hx := hw.x_zero hi hux
    have hy := hw.y_zero hi huy
    have : nth l i = ⟨(nth l i).op, (nth l i).i, (nth l i).e, (nth l i).g, (nth l i).x, (nth l i).y⟩ := rfl
    rw [this, hx, hy]; rfl
  have hkid : ∀ c, kid c (trAt l i) → c ∈ L := fun c h => by rw [ht] at h; exact h.elim
  have hadd : addT (trAt l i) L = put (trAt l i) L := by rw [ht]; rfl
  have c1 := h.cd
  have c2 := h.dn.cell hi
  rw [hD] at c2
  have HUX := Lib.hid hux
  have HUY := Lib.hid huy
  have HOK := Lib.hid hok
  have HRG := Lib.hid hrange
  have HN := Lib.hid hnd
  have HA := Lib.hid hadd
  have HK := Lib.hid hkid
  clear ht
  have hwbW := h.hi
  have hgW := h.gb
  have hlo := h.lo
  have HB0 : Hid (some W.heap.size ≠ v.ownBlock) := fun e => by have := (h.vb _ e.symm).2; omega
  have HR0 := Lib.hid (h.ext' ((Ext.refl W).alloc (.cells #[.int .i64 (nth l i).op, .int .i64 (nth l i).i, .int .i64 (nth l i).e, .int .i64 (nth l i).g, .int .i64 (nth l i).x, .int .i64 (nth l i).y] 66)))
  have HF0 := Lib.hid ((FR.refl wb g v W).ext ((Ext.refl W).alloc (.cells #[.int .i64 (nth l i).op, .int .i64 (nth l i).i, .int .i64 (nth l i).e, .int .i64 (nth l i).g, .int .i64 (nth l i).x, .int .i64 (nth l i).y] 66)))
  have HX0 := Lib.hid (NdAt.new W (nth l i) 66)
  obtain ⟨b, off, rfl, hb, n0, n1, n2, n3, n4, n5⟩ := (hr.ext h.ext).get hi
  have HRN := Lib.hid hr
  clear hr hw h hD hux huy hok hrange hnd hadd hkid
  have hfzx0 : ∀ o, (W.alloc (.cells #[.int .i64 (nth l i).op, .int .i64 (nth l i).i, .int .i64 (nth l i).e, .int .i64 (nth l i).g, .int .i64 (nth l i).x, .int .i64 (nth l i).y] 66)).frozen? ⟨W.heap.size, o, none⟩ = false := fun o => by simp
  have hxlt0 : W.heap.size < (W.alloc (.cells #[.int .i64 (nth l i).op, .int .i64 (nth l i).i, .int .i64 (nth l i).e, .int .i64 (nth l i).g, .int .i64 (nth l i).x, .int .i64 (nth l i).y] 66)).heap.size := by simp
  go_enter Tryz.func107, Tryz.ntmps107
  go_wp2_with fail
  refine (r5X_any _ _).mono ?_
  rintro _ _ ⟨rfl, rfl⟩
  rw [HUX.out]
  dsimp only
  generalize W.alloc (.cells #[.int .i64 (nth l i).op, .int .i64 (nth l i).i, .int .i64 (nth l i).e, .int .i64 (nth l i).g, .int .i64 (nth l i).x, .int .i64 (nth l i).y] 66) = W1 at *
  clear c1 c2 n0 n1 n2 n3 n4 n5
  obtain ⟨x0, x1, x2, x3, x4, x5⟩ := HX0.out
  simp only [Nat.zero_add] at x1 x2 x3 x4 x5
  go_wp2_with fail
  refine (r5Y_any _ _).mono ?_
  rintro _ _ ⟨rfl, rfl⟩
  rw [HUY.out]
  dsimp only
  have c1 := HR0.out.cd
  have hi0 : (0 : Int) ≤ (i : Int) := by omega
  have hi1 : (i : Int) < (l.length : Int) := by omega
  have hgw : wb ≠ g := by omega
  have hgx : W.heap.size ≠ g := by omega
  have hwx : W.heap.size ≠ wb := by omega
  have HRD := Lib.hid (HR0.out.ext' ((Ext.refl W1).drew))
  have HXD := Lib.hid (HX0.out.ext ((Ext.refl W1).drew))
  have HFD := Lib.hid (HF0.out.ext ((Ext.refl W1).drew))
  have hxD : W.heap.size < W1.drew.heap.size := hxlt0
  clear x0 x1 x2 x3 x4 x5
  generalize hcn : ((nth l i) : Nd) = cn at *
  obtain ⟨x0, x1, x2, x3, x4, x5⟩ := HX0.out
  simp only [Nat.zero_add] at x1 x2 x3 x4 x5
  have HC4 : Hid (∀ W4 v4, RS w wb g c l W4 (put (trAt l i) L) v4 D → FR wb g v W1.drew W4 v4 → (W4.cell? ⟨wb, 1, none⟩ = some (.slice (some ⟨g, 0, none⟩) l.length c) ∧ W4.cell? ⟨W.heap.size, 0, none⟩ = some (.int .i64 cn.op) ∧ W4.cell? ⟨W.heap.size, 1, none⟩ = some (.int .i64 cn.i) ∧ W4.cell? ⟨W.heap.size, 2, none⟩ = some (.int .i64 cn.e) ∧ W4.cell? ⟨W.heap.size, 3, none⟩ = some (.int .i64 cn.g) ∧ W4.cell? ⟨W.heap.size, 4, none⟩ = some (.int .i64 cn.x) ∧ W4.cell? ⟨W.heap.size, 5, none⟩ = some (.int .i64 cn.y)) ∧ ∀ u, (W4.setCell ⟨g, i, none⟩ u).cell? ⟨wb, 1, none⟩ = some (.slice (some ⟨g, 0, none⟩) l.length c) ∧ (W4.setCell ⟨g, i, none⟩ u).cell? ⟨W.heap.size, 0, none⟩ = some (.int .i64 cn.op) ∧ (W4.setCell ⟨g, i, none⟩ u).cell? ⟨W.heap.size, 1, none⟩ = some (.int .i64 cn.i) ∧ (W4.setCell ⟨g, i, none⟩ u).cell? ⟨W.heap.size, 2, none⟩ = some (.int .i64 cn.e) ∧ (W4.setCell ⟨g, i, none⟩ u).cell? ⟨W.heap.size, 3, none⟩ = some (.int .i64 cn.g) ∧ (W4.setCell ⟨g, i, none⟩ u).cell? ⟨W.heap.size, 4, none⟩ = some (.int .i64 cn.x) ∧ (W4.setCell ⟨g, i, none⟩ u).cell? ⟨W.heap.size, 5, none⟩ = some (.int .i64 cn.y)) := by
    intro W4 v4 hR hF
    have hx := HXD.out.keep (hF.keep W.heap.size hxD hwx hgx HB0.out)
    obtain ⟨y0, y1, y2, y3, y4, y5⟩ := hx
    simp only [Nat.zero_add] at y1 y2 y3 y4 y5
    refine ⟨⟨hR.cd, y0, y1, y2, y3, y4, y5⟩, fun u => ?_⟩
    refine ⟨?_, ?_, ?_, ?_, ?_, ?_, ?_⟩
    · rw [World.cell?_setCell_other _ _ _ _ (by simp)]; exact hR.cd
    all_goals (rw [World.cell?_setCell_other _ _ _ _ (by simp)]; assumption)
  go_wp2_with fail
  go_region_held3 (fun w' => w'.cell? ⟨wb, 1, none⟩ = some (.slice (some ⟨g, 0, none⟩) l.length c) ∧ w'.cell? ⟨W.heap.size, 0, none⟩ = some (.int .i64 cn.op) ∧ w'.cell? ⟨W.heap.size, 1, none⟩ = some (.int .i64 cn.i) ∧ w'.cell? ⟨W.heap.size, 2, none⟩ = some (.int .i64 cn.e) ∧ w'.cell? ⟨W.heap.size, 3, none⟩ = some (.int .i64 cn.g) ∧ w'.cell? ⟨W.heap.size, 4, none⟩ = some (.int .i64 cn.x) ∧ w'.cell? ⟨W.heap.size, 5, none⟩ = some (.int .i64 cn.y)) (first | go_keep | exact k4 | exact k5 _)
    (first | (go_at_call 135; refine (r5put_any HRD.out hl cn HK.out HOK.out HRG.out HN.out).mono ?_; rintro e W4 ⟨v4, rfl, hR4, hF4⟩; obtain ⟨k4, k5⟩ := HC4.out _ _ hR4 hF4; have c4 := hR4.dn.cell hi; have f4 := hR4.dn.frozen i; have HR4 := Lib.hid hR4; have HF4 := Lib.hid hF4; clear hR4 hF4))
  all_goals
    obtain ⟨z0, -⟩ := k5 (.int .i64 (idx (put (trAt l i) L) (trAt l i) : Int))
    have z1 := World.cell?_setCell_same W4 ⟨g, i, none⟩ (.int .i64 (idx (put (trAt l i) L) (trAt l i) : Int)) c4
    clear k4 k5
    go_wp2
    go_ret
    refine ⟨v4, D.set i (idx (put (trAt l i) L) (trAt l i) : Int), ?_, ?_, ?_⟩
    · rw [HA.out]; rfl
    · rw [HA.out]; exact (HR4.out.mark hi (put_mem _ _)).1
    · exact (HFD.out.trans HF4.out).trans (HR4.out.mark hi (put_mem _ _)).2
set_option maxRecDepth 20000 in
set_option maxHeartbeats 4000000 in
theorem r5finish_un {w : World} {wb g c : Nat} {fa : Option Addr} {fc : Nat} {l : List Nd} {W : World} {L : List Fm} {v : Value} {D : List Int} (hr : RN w fa l) (hw : Wf l) (h : RS w wb g c l W L v D) (i : Nat) (hi : i < l.length) (hD : nth D i = -1) (hl : l.length ≤ 1000)
    (hux : (useOf (nth l i).op).1.x = true) (huy : (useOf (nth l i).op).1.y = false) (ihx : FinR w wb g c fa fc l (nth l i).x.toNat) :
    Calls Tryz.prog 107 #[.slice fa l.length fc, .int .i64 (i : Int), .pointer (some ⟨wb, 0, none⟩)] W (FinRPost w wb g c l i W L v D) := by
  have hok : fok (trAt l i) := fok_trAt hw _ i (Nat.lt_succ_self i) hi
  have hrange : trAt l i ∈ (List.range l.length).map (trAt l) := List.mem_map.2 ⟨i, by simpa using hi, rfl⟩
  obtain ⟨hx0, hxl⟩ := hw.x_lt hi hux
  obtain ⟨kx, hkx⟩ := Int.eq_ofNat_of_zero_le hx0
  have ht := trAt_un hw hi hux huy
  rw [hkx, Int.toNat_natCast] at ht ihx hxl
  have hnd : ndOf (addT (trAt l kx) L) (trAt l i) = { (nth l i) with x := (idx (addT (trAt l kx) L) (trAt l kx) : Int) } := by
    rw [ht]
    have hy := hw.y_zero hi huy
    have : nth l i = ⟨(nth l i).op, (nth l i).i, (nth l i).e, (nth l i).g, (nth l i).x, (nth l i).y⟩ := rfl
    rw [this, hy]; rfl
  have hkid : ∀ c, kid c (trAt l i) → c ∈ addT (trAt l kx) L := fun c h => by rw [ht] at h; rw [show c = trAt l kx from h]; exact addT_mem _ _
  have hadd : addT (trAt l i) L = put (trAt l i) (addT (trAt l kx) L) := by rw [ht]; rfl
  have HKX := Lib.hid hkx
  have Hihx := Lib.hid ihx
  clear hkx hx0 ihx
  have c1 := h.cd
  have c2 := h.dn.cell hi
  rw [hD] at c2
  have HUX := Lib.hid hux
  have HUY := Lib.hid huy
  have HOK := Lib.hid hok
  have HRG := Lib.hid hrange
  have HN := Lib.hid hnd
  have HA := Lib.hid hadd
  have HK := Lib.hid hkid
  clear ht
  have hwbW := h.hi
  have hgW := h.gb
  have hlo := h.lo
  have HB0 : Hid (some W.heap.size ≠ v.ownBlock) := fun e => by have := (h.vb _ e.symm).2; omega
  have HR0 := Lib.hid (h.ext' ((Ext.refl W).alloc (.cells #[.int .i64 (nth l i).op, .int .i64 (nth l i).i, .int .i64 (nth l i).e, .int .i64 (nth l i).g, .int .i64 (nth l i).x, .int .i64 (nth l i).y] 66)))
  have HF0 := Lib.hid ((FR.refl wb g v W).ext ((Ext.refl W).alloc (.cells #[.int .i64 (nth l i).op, .int .i64 (nth l i).i, .int .i64 (nth l i).e, .int .i64 (nth l i).g, .int .i64 (nth l i).x, .int .i64 (nth l i).y] 66)))
  have HX0 := Lib.hid (NdAt.new W (nth l i) 66)
  obtain ⟨b, off, rfl, hb, n0, n1, n2, n3, n4, n5⟩ := (hr.ext h.ext).get hi
  have HRN := Lib.hid hr
  clear hr hw h hD hux huy hok hrange hnd hadd hkid
  have hfzx0 : ∀ o, (W.alloc (.cells #[.int .i64 (nth l i).op, .int .i64 (nth l i).i, .int .i64 (nth l i).e, .int .i64 (nth l i).g, .int .i64 (nth l i).x, .int .i64 (nth l i).y] 66)).frozen? ⟨W.heap.size, o, none⟩ = false := fun o => by simp
  have hxlt0 : W.heap.size < (W.alloc (.cells #[.int .i64 (nth l i).op, .int .i64 (nth l i).i, .int .i64 (nth l i).e, .int .i64 (nth l i).g, .int .i64 (nth l i).x, .int .i64 (nth l i).y] 66)).heap.size := by simp
  go_enter Tryz.func107, Tryz.ntmps107
  go_wp2_with fail
  refine (r5X_any _ _).mono ?_
  rintro _ _ ⟨rfl, rfl⟩
  rw [HUX.out]
  dsimp only
  generalize W.alloc (.cells #[.int .i64 (nth l i).op, .int .i64 (nth l i).i, .int .i64 (nth l i).e, .int .i64 (nth l i).g, .int .i64 (nth l i).x, .int .i64 (nth l i).y] 66) = W1 at *
  clear c1 c2 n0 n1 n2 n3 n4 n5
  obtain ⟨x0, x1, x2, x3, x4, x5⟩ := HX0.out
  simp only [Nat.zero_add] at x1 x2 x3 x4 x5
  obtain ⟨b', off', hbe, hb', n0, n1, n2, n3, n4, n5⟩ := (HRN.out.ext HR0.out.ext).get hi
  simp only [Option.some.injEq, Addr.mk.injEq] at hbe
  obtain ⟨rfl, rfl, -⟩ := hbe
  rw [HKX.out] at n4
  go_wp2_with fail
  refine (Hihx.out _ _ _ _ HR0.out).mono ?_
  rintro e W2 ⟨v1, D1, rfl, hR, hF⟩
  dsimp only
  have HRa := Lib.hid hR
  have HFa := Lib.hid hF
  have hkx := hF.keep W.heap.size hxlt0 (by omega) (by omega) HB0.out
  have HB1 : Hid (some W.heap.size ≠ v1.ownBlock) := hF.xb hxlt0 HB0.out
  have hxa := HX0.out.keep hkx
  have hfa : ∀ o, W2.frozen? ⟨W.heap.size, o, none⟩ = false := fun o => by
    rw [World.frozen?_of_block hkx]; exact hfzx0 o
  have hxlta : W.heap.size < W2.heap.size := by have := hF.size; omega
  have HXa := Lib.hid hxa
  clear hR hF x0 x1 x2 x3 x4 x5 n0 n1 n2 n3 n4 n5 hkx hfzx0
  obtain ⟨x0, x1, x2, x3, x4, x5⟩ := hxa
  simp only [Nat.zero_add] at x1 x2 x3 x4 x5
  go_wp2_with fail
  refine (r5Y_any _ _).mono ?_
  rintro _ _ ⟨rfl, rfl⟩
  rw [HUY.out]
  dsimp only
  have HR1 : Hid (RS w wb g c l (W2.setCell ⟨W.heap.size, 4, none⟩ (.int .i64 (idx (addT (trAt l kx) L) (trAt l kx) : Int))) (addT (trAt l kx) L) v1 D1) := HRa.out.setBox (by omega) (by omega) (by omega) HB1.out _ _
  have HF1 : Hid (FR wb g v W (W2.setCell ⟨W.heap.size, 4, none⟩ (.int .i64 (idx (addT (trAt l kx) L) (trAt l kx) : Int))) v1) := (HF0.out.trans HFa.out).setNew (Nat.le_refl _) _ _
  have HX1 : Hid (NdAt (W2.setCell ⟨W.heap.size, 4, none⟩ (.int .i64 (idx (addT (trAt l kx) L) (trAt l kx) : Int))) W.heap.size 0 { (nth l i) with x := (idx (addT (trAt l kx) L) (trAt l kx) : Int) }) := HXa.out.setX _
  have hfzx1 : ∀ o, (W2.setCell ⟨W.heap.size, 4, none⟩ (.int .i64 (idx (addT (trAt l kx) L) (trAt l kx) : Int))).frozen? ⟨W.heap.size, o, none⟩ = false := fun o => by rw [World.frozen?_setCell]; exact hfa o
  have hxlt1 : W.heap.size < (W2.setCell ⟨W.heap.size, 4, none⟩ (.int .i64 (idx (addT (trAt l kx) L) (trAt l kx) : Int))).heap.size := by simpa [World.setCell] using hxlta
  generalize (W2.setCell ⟨W.heap.size, 4, none⟩ (.int .i64 (idx (addT (trAt l kx) L) (trAt l kx) : Int))) = V1 at *
  clear x0 x1 x2 x3 x4 x5 HRa HFa HXa hfa hxlta
  obtain ⟨x0, x1, x2, x3, x4, x5⟩ := HX1.out
  simp only [Nat.zero_add] at x1 x2 x3 x4 x5
  have c1 := HR1.out.cd
  have hi0 : (0 : Int) ≤ (i : Int) := by omega
  have hi1 : (i : Int) < (l.length : Int) := by omega
  have hgw : wb ≠ g := by omega
  have hgx : W.heap.size ≠ g := by omega
  have hwx : W.heap.size ≠ wb := by omega
  have HRD := Lib.hid (HR1.out.ext' ((Ext.refl V1).drew))
  have HXD := Lib.hid (HX1.out.ext ((Ext.refl V1).drew))
  have HFD := Lib.hid (HF1.out.ext ((Ext.refl V1).drew))
  have hxD : W.heap.size < V1.drew.heap.size := hxlt1
  clear x0 x1 x2 x3 x4 x5
  generalize hcn : ({ (nth l i) with x := (idx (addT (trAt l kx) L) (trAt l kx) : Int) } : Nd) = cn at *
  obtain ⟨x0, x1, x2, x3, x4, x5⟩ := HX1.out
  simp only [Nat.zero_add] at x1 x2 x3 x4 x5
  have HC4 : Hid (∀ W4 v4, RS w wb g c l W4 (put (trAt l i) (addT (trAt l kx) L)) v4 D1 → FR wb g v1 V1.drew W4 v4 → (W4.cell? ⟨wb, 1, none⟩ = some (.slice (some ⟨g, 0, none⟩) l.length c) ∧ W4.cell? ⟨W.heap.size, 0, none⟩ = some (.int .i64 cn.op) ∧ W4.cell? ⟨W.heap.size, 1, none⟩ = some (.int .i64 cn.i) ∧ W4.cell? ⟨W.heap.size, 2, none⟩ = some (.int .i64 cn.e) ∧ W4.cell? ⟨W.heap.size, 3, none⟩ = some (.int .i64 cn.g) ∧ W4.cell? ⟨W.heap.size, 4, none⟩ = some (.int .i64 cn.x) ∧ W4.cell? ⟨W.heap.size, 5, none⟩ = some (.int .i64 cn.y)) ∧ ∀ u, (W4.setCell ⟨g, i, none⟩ u).cell? ⟨wb, 1, none⟩ = some (.slice (some ⟨g, 0, none⟩) l.length c) ∧ (W4.setCell ⟨g, i, none⟩ u).cell? ⟨W.heap.size, 0, none⟩ = some (.int .i64 cn.op) ∧ (W4.setCell ⟨g, i, none⟩ u).cell? ⟨W.heap.size, 1, none⟩ = some (.int .i64 cn.i) ∧ (W4.setCell ⟨g, i, none⟩ u).cell? ⟨W.heap.size, 2, none⟩ = some (.int .i64 cn.e) ∧ (W4.setCell ⟨g, i, none⟩ u).cell? ⟨W.heap.size, 3, none⟩ = some (.int .i64 cn.g) ∧ (W4.setCell ⟨g, i, none⟩ u).cell? ⟨W.heap.size, 4, none⟩ = some (.int .i64 cn.x) ∧ (W4.setCell ⟨g, i, none⟩ u).cell? ⟨W.heap.size, 5, none⟩ = some (.int .i64 cn.y)) := by
    intro W4 v4 hR hF
    have hx := HXD.out.keep (hF.keep W.heap.size hxD hwx hgx HB1.out)
    obtain ⟨y0, y1, y2, y3, y4, y5⟩ := hx
    simp only [Nat.zero_add] at y1 y2 y3 y4 y5
    refine ⟨⟨hR.cd, y0, y1, y2, y3, y4, y5⟩, fun u => ?_⟩
    refine ⟨?_, ?_, ?_, ?_, ?_, ?_, ?_⟩
    · rw [World.cell?_setCell_other _ _ _ _ (by simp)]; exact hR.cd
    all_goals (rw [World.cell?_setCell_other _ _ _ _ (by simp)]; assumption)
  go_wp2_with fail
  go_region_held3 (fun w' => w'.cell? ⟨wb, 1, none⟩ = some (.slice (some ⟨g, 0, none⟩) l.length c) ∧ w'.cell? ⟨W.heap.size, 0, none⟩ = some (.int .i64 cn.op) ∧ w'.cell? ⟨W.heap.size, 1, none⟩ = some (.int .i64 cn.i) ∧ w'.cell? ⟨W.heap.size, 2, none⟩ = some (.int .i64 cn.e) ∧ w'.cell? ⟨W.heap.size, 3, none⟩ = some (.int .i64 cn.g) ∧ w'.cell? ⟨W.heap.size, 4, none⟩ = some (.int .i64 cn.x) ∧ w'.cell? ⟨W.heap.size, 5, none⟩ = some (.int .i64 cn.y)) (first | go_keep | exact k4 | exact k5 _)
    (first | (go_at_call 135; refine (r5put_any HRD.out hl cn HK.out HOK.out HRG.out HN.out).mono ?_; rintro e W4 ⟨v4, rfl, hR4, hF4⟩; obtain ⟨k4, k5⟩ := HC4.out _ _ hR4 hF4; have c4 := hR4.dn.cell hi; have f4 := hR4.dn.frozen i; have HR4 := Lib.hid hR4; have HF4 := Lib.hid hF4; clear hR4 hF4))
  all_goals
    obtain ⟨z0, -⟩ := k5 (.int .i64 (idx (put (trAt l i) (addT (trAt l kx) L)) (trAt l i) : Int))
    have z1 := World.cell?_setCell_same W4 ⟨g, i, none⟩ (.int .i64 (idx (put (trAt l i) (addT (trAt l kx) L)) (trAt l i) : Int)) c4
    clear k4 k5
    go_wp2
    go_ret
    refine ⟨v4, D1.set i (idx (put (trAt l i) (addT (trAt l kx) L)) (trAt l i) : Int), ?_, ?_, ?_⟩
    · rw [HA.out]; rfl
    · rw [HA.out]; exact (HR4.out.mark hi (put_mem _ _)).1
    · exact (HFD.out.trans HF4.out).trans (HR4.out.mark hi (put_mem _ _)).2
set_option maxRecDepth 20000 in
set_option maxHeartbeats 4000000 in
theorem r5finish_bin {w : World} {wb g c : Nat} {fa : Option Addr} {fc : Nat} {l : List Nd} {W : World} {L : List Fm} {v : Value} {D : List Int} (hr : RN w fa l) (hw : Wf l) (h : RS w wb g c l W L v D) (i : Nat) (hi : i < l.length) (hD : nth D i = -1) (hl : l.length ≤ 1000)
    (hux : (useOf (nth l i).op).1.x = true) (huy : (useOf (nth l i).op).1.y = true) (ihx : FinR w wb g c fa fc l (nth l i).x.toNat) (ihy : FinR w wb g c fa fc l (nth l i).y.toNat) :
    Calls Tryz.prog 107 #[.slice fa l.length fc, .int .i64 (i : Int), .pointer (some ⟨wb, 0, none⟩)] W (FinRPost w wb g c l i W L v D) := by
  have hok : fok (trAt l i) := fok_trAt hw _ i (Nat.lt_succ_self i) hi
  have hrange : trAt l i ∈ (List.range l.length).map (trAt l) := List.mem_map.2 ⟨i, by simpa using hi, rfl⟩
  obtain ⟨hx0, hxl⟩ := hw.x_lt hi hux
  obtain ⟨kx, hkx⟩ := Int.eq_ofNat_of_zero_le hx0
  obtain ⟨hy0, hyl⟩ := hw.y_lt hi huy
  obtain ⟨ky, hky⟩ := Int.eq_ofNat_of_zero_le hy0
  have ht := trAt_bin hw hi huy
  rw [hkx, hky, Int.toNat_natCast, Int.toNat_natCast] at ht
  rw [hkx, Int.toNat_natCast] at ihx hxl
  rw [hky, Int.toNat_natCast] at ihy hyl
  have hnd : ndOf (addT (trAt l ky) (addT (trAt l kx) L)) (trAt l i) = { (nth l i) with x := (idx (addT (trAt l kx) L) (trAt l kx) : Int), y := (idx (addT (trAt l ky) (addT (trAt l kx) L)) (trAt l ky) : Int) } := by
    rw [ht]
    have e1 : idx (addT (trAt l ky) (addT (trAt l kx) L)) (trAt l kx) = idx (addT (trAt l kx) L) (trAt l kx) := by
      obtain ⟨M, hM⟩ := addT_pre (trAt l ky) (addT (trAt l kx) L)
      rw [hM, idx_append (addT_mem _ _)]
    show (⟨_, _, _, _, (idx _ (trAt l kx) : Int), _⟩ : Nd) = _
    rw [e1]
  have hkid : ∀ c, kid c (trAt l i) → c ∈ addT (trAt l ky) (addT (trAt l kx) L) := fun c h => by
    rw [ht] at h
    rcases (show c = trAt l kx ∨ c = trAt l ky from h) with rfl | rfl
    · exact addT_sub (addT_mem _ _)
    · exact addT_mem _ _
  have hadd : addT (trAt l i) L = put (trAt l i) (addT (trAt l ky) (addT (trAt l kx) L)) := by rw [ht]; rfl
  have HKY := Lib.hid hky
  have Hihy := Lib.hid ihy
  clear hky hy0 ihy
  have HKX := Lib.hid hkx
  have Hihx := Lib.hid ihx
  clear hkx hx0 ihx
  have c1 := h.cd
  have c2 := h.dn.cell hi
  rw [hD] at c2
  have HUX := Lib.hid hux
  have HUY := Lib.hid huy
  have HOK := Lib.hid hok
  have HRG := Lib.hid hrange
  have HN := Lib.hid hnd
  have HA := Lib.hid hadd
  have HK := Lib.hid hkid
  clear ht
  have hwbW := h.hi
  have hgW := h.gb
  have hlo := h.lo
  have HB0 : Hid (some W.heap.size ≠ v.ownBlock) := fun e => by have := (h.vb _ e.symm).2; omega
  have HR0 := Lib.hid (h.ext' ((Ext.refl W).alloc (.cells #[.int .i64 (nth l i).op, .int .i64 (nth l i).i, .int .i64 (nth l i).e, .int .i64 (nth l i).g, .int .i64 (nth l i).x, .int .i64 (nth l i).y] 66)))
  have HF0 := Lib.hid ((FR.refl wb g v W).ext ((Ext.refl W).alloc (.cells #[.int .i64 (nth l i).op, .int .i64 (nth l i).i, .int .i64 (nth l i).e, .int .i64 (nth l i).g, .int .i64 (nth l i).x, .int .i64 (nth l i).y] 66)))
  have HX0 := Lib.hid (NdAt.new W (nth l i) 66)
  obtain ⟨b, off, rfl, hb, n0, n1, n2, n3, n4, n5⟩ := (hr.ext h.ext).get hi
  have HRN := Lib.hid hr
  clear hr hw h hD hux huy hok hrange hnd hadd hkid
  have hfzx0 : ∀ o, (W.alloc (.cells #[.int .i64 (nth l i).op, .int .i64 (nth l i).i, .int .i64 (nth l i).e, .int .i64 (nth l i).g, .int .i64 (nth l i).x, .int .i64 (nth l i).y] 66)).frozen? ⟨W.heap.size, o, none⟩ = false := fun o => by simp
  have hxlt0 : W.heap.size < (W.alloc (.cells #[.int .i64 (nth l i).op, .int .i64 (nth l i).i, .int .i64 (nth l i).e, .int .i64 (nth l i).g, .int .i64 (nth l i).x, .int .i64 (nth l i).y] 66)).heap.size := by simp
  go_enter Tryz.func107, Tryz.ntmps107
  go_wp2_with fail
  refine (r5X_any _ _).mono ?_
  rintro _ _ ⟨rfl, rfl⟩
  rw [HUX.out]
  dsimp only
  generalize W.alloc (.cells #[.int .i64 (nth l i).op, .int .i64 (nth l i).i, .int .i64 (nth l i).e, .int .i64 (nth l i).g, .int .i64 (nth l i).x, .int .i64 (nth l i).y] 66) = W1 at *
  clear c1 c2 n0 n1 n2 n3 n4 n5
  obtain ⟨x0, x1, x2, x3, x4, x5⟩ := HX0.out
  simp only [Nat.zero_add] at x1 x2 x3 x4 x5
  obtain ⟨b', off', hbe, hb', n0, n1, n2, n3, n4, n5⟩ := (HRN.out.ext HR0.out.ext).get hi
  simp only [Option.some.injEq, Addr.mk.injEq] at hbe
  obtain ⟨rfl, rfl, -⟩ := hbe
  rw [HKX.out] at n4
  go_wp2_with fail
  refine (Hihx.out _ _ _ _ HR0.out).mono ?_
  rintro e W2 ⟨v1, D1, rfl, hR, hF⟩
  dsimp only
  have HRa := Lib.hid hR
  have HFa := Lib.hid hF
  have hkx := hF.keep W.heap.size hxlt0 (by omega) (by omega) HB0.out
  have HB1 : Hid (some W.heap.size ≠ v1.ownBlock) := hF.xb hxlt0 HB0.out
  have hxa := HX0.out.keep hkx
  have hfa : ∀ o, W2.frozen? ⟨W.heap.size, o, none⟩ = false := fun o => by
    rw [World.frozen?_of_block hkx]; exact hfzx0 o
  have hxlta : W.heap.size < W2.heap.size := by have := hF.size; omega
  have HXa := Lib.hid hxa
  clear hR hF x0 x1 x2 x3 x4 x5 n0 n1 n2 n3 n4 n5 hkx hfzx0
  obtain ⟨x0, x1, x2, x3, x4, x5⟩ := hxa
  simp only [Nat.zero_add] at x1 x2 x3 x4 x5
  go_wp2_with fail
  refine (r5Y_any _ _).mono ?_
  rintro _ _ ⟨rfl, rfl⟩
  rw [HUY.out]
  dsimp only
  have HR1 : Hid (RS w wb g c l (W2.setCell ⟨W.heap.size, 4, none⟩ (.int .i64 (idx (addT (trAt l kx) L) (trAt l kx) : Int))) (addT (trAt l kx) L) v1 D1) := HRa.out.setBox (by omega) (by omega) (by omega) HB1.out _ _
  have HF1 : Hid (FR wb g v W (W2.setCell ⟨W.heap.size, 4, none⟩ (.int .i64 (idx (addT (trAt l kx) L) (trAt l kx) : Int))) v1) := (HF0.out.trans HFa.out).setNew (Nat.le_refl _) _ _
  have HX1 : Hid (NdAt (W2.setCell ⟨W.heap.size, 4, none⟩ (.int .i64 (idx (addT (trAt l kx) L) (trAt l kx) : Int))) W.heap.size 0 { (nth l i) with x := (idx (addT (trAt l kx) L) (trAt l kx) : Int) }) := HXa.out.setX _
  have hfzx1 : ∀ o, (W2.setCell ⟨W.heap.size, 4, none⟩ (.int .i64 (idx (addT (trAt l kx) L) (trAt l kx) : Int))).frozen? ⟨W.heap.size, o, none⟩ = false := fun o => by rw [World.frozen?_setCell]; exact hfa o
  have hxlt1 : W.heap.size < (W2.setCell ⟨W.heap.size, 4, none⟩ (.int .i64 (idx (addT (trAt l kx) L) (trAt l kx) : Int))).heap.size := by simpa [World.setCell] using hxlta
  generalize (W2.setCell ⟨W.heap.size, 4, none⟩ (.int .i64 (idx (addT (trAt l kx) L) (trAt l kx) : Int))) = V1 at *
  clear x0 x1 x2 x3 x4 x5 HRa HFa HXa hfa hxlta
  obtain ⟨x0, x1, x2, x3, x4, x5⟩ := HX1.out
  simp only [Nat.zero_add] at x1 x2 x3 x4 x5
  obtain ⟨b', off', hbe, hb', n0, n1, n2, n3, n4, n5⟩ := (HRN.out.ext HR1.out.ext).get hi
  simp only [Option.some.injEq, Addr.mk.injEq] at hbe
  obtain ⟨rfl, rfl, -⟩ := hbe
  rw [HKY.out] at n5
  go_wp2_with fail
  refine (Hihy.out _ _ _ _ HR1.out).mono ?_
  rintro e W3 ⟨v2, D2, rfl, hR, hF⟩
  dsimp only
  have HRa := Lib.hid hR
  have HFa := Lib.hid hF
  have hkx := hF.keep W.heap.size hxlt1 (by omega) (by omega) HB1.out
  have HB2 : Hid (some W.heap.size ≠ v2.ownBlock) := hF.xb hxlt1 HB1.out
  have hxa := HX1.out.keep hkx
  have hfa : ∀ o, W3.frozen? ⟨W.heap.size, o, none⟩ = false := fun o => by
    rw [World.frozen?_of_block hkx]; exact hfzx1 o
  have hxlta : W.heap.size < W3.heap.size := by have := hF.size; omega
  have HXa := Lib.hid hxa
  clear hR hF x0 x1 x2 x3 x4 x5 n0 n1 n2 n3 n4 n5 hkx hfzx1
  obtain ⟨x0, x1, x2, x3, x4, x5⟩ := hxa
  simp only [Nat.zero_add] at x1 x2 x3 x4 x5
  go_wp2_with fail
  have HR2 : Hid (RS w wb g c l (W3.setCell ⟨W.heap.size, 5, none⟩ (.int .i64 (idx (addT (trAt l ky) (addT (trAt l kx) L)) (trAt l ky) : Int))) (addT (trAt l ky) (addT (trAt l kx) L)) v2 D2) := HRa.out.setBox (by omega) (by omega) (by omega) HB2.out _ _
  have HF2 : Hid (FR wb g v W (W3.setCell ⟨W.heap.size, 5, none⟩ (.int .i64 (idx (addT (trAt l ky) (addT (trAt l kx) L)) (trAt l ky) : Int))) v2) := (HF1.out.trans HFa.out).setNew (Nat.le_refl _) _ _
  have HX2 : Hid (NdAt (W3.setCell ⟨W.heap.size, 5, none⟩ (.int .i64 (idx (addT (trAt l ky) (addT (trAt l kx) L)) (trAt l ky) : Int))) W.heap.size 0 { (nth l i) with x := (idx (addT (trAt l kx) L) (trAt l kx) : Int), y := (idx (addT (trAt l ky) (addT (trAt l kx) L)) (trAt l ky) : Int) }) := HXa.out.setY _
  have hfzx2 : ∀ o, (W3.setCell ⟨W.heap.size, 5, none⟩ (.int .i64 (idx (addT (trAt l ky) (addT (trAt l kx) L)) (trAt l ky) : Int))).frozen? ⟨W.heap.size, o, none⟩ = false := fun o => by rw [World.frozen?_setCell]; exact hfa o
  have hxlt2 : W.heap.size < (W3.setCell ⟨W.heap.size, 5, none⟩ (.int .i64 (idx (addT (trAt l ky) (addT (trAt l kx) L)) (trAt l ky) : Int))).heap.size := by simpa [World.setCell] using hxlta
  generalize (W3.setCell ⟨W.heap.size, 5, none⟩ (.int .i64 (idx (addT (trAt l ky) (addT (trAt l kx) L)) (trAt l ky) : Int))) = V2 at *
  clear x0 x1 x2 x3 x4 x5 HRa HFa HXa hfa hxlta
  obtain ⟨x0, x1, x2, x3, x4, x5⟩ := HX2.out
  simp only [Nat.zero_add] at x1 x2 x3 x4 x5
  have c1 := HR2.out.cd
  have hi0 : (0 : Int) ≤ (i : Int) := by omega
  have hi1 : (i : Int) < (l.length : Int) := by omega
  have hgw : wb ≠ g := by omega
  have hgx : W.heap.size ≠ g := by omega
  have hwx : W.heap.size ≠ wb := by omega
  have HRD := Lib.hid (HR2.out.ext' ((Ext.refl V2).drew))
  have HXD := Lib.hid (HX2.out.ext ((Ext.refl V2).drew))
  have HFD := Lib.hid (HF2.out.ext ((Ext.refl V2).drew))
  have hxD : W.heap.size < V2.drew.heap.size := hxlt2
  clear x0 x1 x2 x3 x4 x5
  generalize hcn : ({ (nth l i) with x := (idx (addT (trAt l kx) L) (trAt l kx) : Int), y := (idx (addT (trAt l ky) (addT (trAt l kx) L)) (trAt l ky) : Int) } : Nd) = cn at *
  obtain ⟨x0, x1, x2, x3, x4, x5⟩ := HX2.out
  simp only [Nat.zero_add] at x1 x2 x3 x4 x5
  have HC4 : Hid (∀ W4 v4, RS w wb g c l W4 (put (trAt l i) (addT (trAt l ky) (addT (trAt l kx) L))) v4 D2 → FR wb g v2 V2.drew W4 v4 → (W4.cell? ⟨wb, 1, none⟩ = some (.slice (some ⟨g, 0, none⟩) l.length c) ∧ W4.cell? ⟨W.heap.size, 0, none⟩ = some (.int .i64 cn.op) ∧ W4.cell? ⟨W.heap.size, 1, none⟩ = some (.int .i64 cn.i) ∧ W4.cell? ⟨W.heap.size, 2, none⟩ = some (.int .i64 cn.e) ∧ W4.cell? ⟨W.heap.size, 3, none⟩ = some (.int .i64 cn.g) ∧ W4.cell? ⟨W.heap.size, 4, none⟩ = some (.int .i64 cn.x) ∧ W4.cell? ⟨W.heap.size, 5, none⟩ = some (.int .i64 cn.y)) ∧ ∀ u, (W4.setCell ⟨g, i, none⟩ u).cell? ⟨wb, 1, none⟩ = some (.slice (some ⟨g, 0, none⟩) l.length c) ∧ (W4.setCell ⟨g, i, none⟩ u).cell? ⟨W.heap.size, 0, none⟩ = some (.int .i64 cn.op) ∧ (W4.setCell ⟨g, i, none⟩ u).cell? ⟨W.heap.size, 1, none⟩ = some (.int .i64 cn.i) ∧ (W4.setCell ⟨g, i, none⟩ u).cell? ⟨W.heap.size, 2, none⟩ = some (.int .i64 cn.e) ∧ (W4.setCell ⟨g, i, none⟩ u).cell? ⟨W.heap.size, 3, none⟩ = some (.int .i64 cn.g) ∧ (W4.setCell ⟨g, i, none⟩ u).cell? ⟨W.heap.size, 4, none⟩ = some (.int .i64 cn.x) ∧ (W4.setCell ⟨g, i, none⟩ u).cell? ⟨W.heap.size, 5, none⟩ = some (.int .i64 cn.y)) := by
    intro W4 v4 hR hF
    have hx := HXD.out.keep (hF.keep W.heap.size hxD hwx hgx HB2.out)
    obtain ⟨y0, y1, y2, y3, y4, y5⟩ := hx
    simp only [Nat.zero_add] at y1 y2 y3 y4 y5
    refine ⟨⟨hR.cd, y0, y1, y2, y3, y4, y5⟩, fun u => ?_⟩
    refine ⟨?_, ?_, ?_, ?_, ?_, ?_, ?_⟩
    · rw [World.cell?_setCell_other _ _ _ _ (by simp)]; exact hR.cd
    all_goals (rw [World.cell?_setCell_other _ _ _ _ (by simp)]; assumption)
  go_wp2_with fail
  go_region_held3 (fun w' => w'.cell? ⟨wb, 1, none⟩ = some (.slice (some ⟨g, 0, none⟩) l.length c) ∧ w'.cell? ⟨W.heap.size, 0, none⟩ = some (.int .i64 cn.op) ∧ w'.cell? ⟨W.heap.size, 1, none⟩ = some (.int .i64 cn.i) ∧ w'.cell? ⟨W.heap.size, 2, none⟩ = some (.int .i64 cn.e) ∧ w'.cell? ⟨W.heap.size, 3, none⟩ = some (.int .i64 cn.g) ∧ w'.cell? ⟨W.heap.size, 4, none⟩ = some (.int .i64 cn.x) ∧ w'.cell? ⟨W.heap.size, 5, none⟩ = some (.int .i64 cn.y)) (first | go_keep | exact k4 | exact k5 _)
    (first | (go_at_call 135; refine (r5put_any HRD.out hl cn HK.out HOK.out HRG.out HN.out).mono ?_; rintro e W4 ⟨v4, rfl, hR4, hF4⟩; obtain ⟨k4, k5⟩ := HC4.out _ _ hR4 hF4; have c4 := hR4.dn.cell hi; have f4 := hR4.dn.frozen i; have HR4 := Lib.hid hR4; have HF4 := Lib.hid hF4; clear hR4 hF4))
  all_goals
    obtain ⟨z0, -⟩ := k5 (.int .i64 (idx (put (trAt l i) (addT (trAt l ky) (addT (trAt l kx) L))) (trAt l i) : Int))
    have z1 := World.cell?_setCell_same W4 ⟨g, i, none⟩ (.int .i64 (idx (put (trAt l i) (addT (trAt l ky) (addT (trAt l kx) L))) (trAt l i) : Int)) c4
    clear k4 k5
    go_wp2
    go_ret
    refine ⟨v4, D2.set i (idx (put (trAt l i) (addT (trAt l ky) (addT (trAt l kx) L))) (trAt l i) : Int), ?_, ?_, ?_⟩
    · rw [HA.out]; rfl
    · rw [HA.out]; exact (HR4.out.mark hi (put_mem _ _)).1
    · exact (HFD.out.trans HF4.out).trans (HR4.out.mark hi (put_mem _ _)).2
/-- What a call of finish does, at any node. -/
theorem r5finish_any {w : World} {wb g c : Nat} {fa : Option Addr} {fc : Nat} {l : List Nd} (hr : RN w fa l) (hw : Wf l) (hl : l.length ≤ 1000) : ∀ n i, i < n → i < l.length → FinR w wb g c fa fc l i
  | 0, _, h, _ => absurd h (Nat.not_lt_zero _)
  | n + 1, i, hn, hi => by
    intro W L v D hc
    by_cases hD : nth D i = -1
    · cases hx : (useOf (nth l i).op).1.x
      · have hy : (useOf (nth l i).op).1.y = false := by
          cases hy : (useOf (nth l i).op).1.y
          · rfl
          · have := useOf_yx (nth l i).op hy
            rw [hx] at this; cases this
        exact r5finish_leaf hr hw hc i hi hD hl hx hy
      · have hxl := (hw.x_lt hi hx).2
        cases hy : (useOf (nth l i).op).1.y
        · exact r5finish_un hr hw hc i hi hD hl hx hy (r5finish_any hr hw hl n _ (by omega) (by omega))
        · have hyl := (hw.y_lt hi hy).2
          exact r5finish_bin hr hw hc i hi hD hl hx hy (r5finish_any hr hw hl n _ (by omega) (by omega)) (r5finish_any hr hw hl n _ (by omega) (by omega))
    · exact r5finish_done hc i hi hD hl
end Wt
