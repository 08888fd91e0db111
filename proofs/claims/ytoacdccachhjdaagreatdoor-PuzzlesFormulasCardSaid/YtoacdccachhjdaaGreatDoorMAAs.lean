/- Walk: formula.build (printed by gen_bld.py). -/
import Derived.Test.YtoacdccachhjdaaGreatDoorMAAj
import Derived.Test.YtoacdccachhjdaaGreatDoorMAAr
import Derived.Deep.AppendLies
namespace Wt
open Go Go.RowKit Go.Maps Go.Proofs Fm

theorem news_at (W : World) (n : Nd) (T H : Nat) (hH : W.heap.size = H) : ∀ j u, (ndCells n)[j]? = some u → (W.alloc (.cells #[.int .i64 n.op, .int .i64 n.i, .int .i64 n.e, .int .i64 n.g, .int .i64 n.x, .int .i64 n.y] T)).cell? ((⟨H, 0, none⟩ : Addr).add j) = some u := by
  subst hH; exact news_of W n T
theorem own_RN {W : World} {base g cap : Nat} {l : List Nd} {n : Nat} (h : W.ownsRow base 109 6 (.slice (some ⟨g, 0, none⟩) n cap) l.length (rowN l)) (_hn : l.length = n) (hl : l.length ≤ 140737488355328) : RN W (some ⟨g, 0, none⟩) l := by
  obtain ⟨a, c, hv, hr⟩ := RN_of_own h hl
  simp only [Value.slice.injEq] at hv
  rw [hv.1]; exact hr
theorem compactQ (fa : Option Addr) (fc : Nat) (l : List Nd) (root n : Nat) (w : World) (hr : RN w fa l) (hw : Wf l) (hi : root < l.length) (hl : l.length ≤ 1000) (hn : l.length = n) :
    Calls Tryz.prog 125 #[.slice fa n fc, .int .i64 (root : Int)] w fun e w' =>
      (∃ a c, e = .returned (.slice a (fsize (trAt l root)) c) ∧ RN w' a (canon (trAt l root)) ∧ Fresh a w.heap.size) ∧ Ext w w' := by
  subst hn; exact compact_fresh fa fc l root w hr hw hi hl
theorem take_sh (F C : List Nd) {q : Nat} (h : q < C.length) : F ++ (C.take (q + 1)).map (shN F.length) = (F ++ (C.take q).map (shN F.length)) ++ [shN F.length (nth C q)] := by
  rw [List.take_succ_eq_append_getElem h, List.map_append, ← List.append_assoc, nth_eq _ _ h]; rfl
set_option maxRecDepth 20000 in
set_option maxHeartbeats 8000000 in
/-- The node's formula, in memory of its own. -/
theorem build_fresh (x : Nd) (oa : Option Addr) (oc : Nat) (os : List (List Nd)) (w : World) (hos : RNN w oa os) (h2 : os.length ≤ 2) :
    Calls Tryz.prog 82 #[.agg #[.int .i64 x.op, .int .i64 x.i, .int .i64 x.e, .int .i64 x.g, .int .i64 x.x, .int .i64 x.y], .slice oa os.length oc] w fun e w' => RetNF (fB x os) e w w' := by
  obtain ⟨i0, hi1, hz0, hz1, hz2⟩ := info_parts node_info
  have HOS := Lib.hid hos
  have hB0 : BS w w.heap.size x [] (.slice none 0 0) (w.alloc (.cells #[.int .i64 x.op, .int .i64 x.i, .int .i64 x.e, .int .i64 x.g, .int .i64 x.x, .int .i64 x.y] 109)) :=
    ⟨Nat.le_refl _, (Ext.refl w).alloc _, by simp, NdAt.new w x _, fun o => by simp, World.ownsRow_nil _ _ _ _⟩
  have HB0 := Lib.hid hB0
  clear hos hB0
  go_enter Tryz.func82, Tryz.ntmps82
  go_wp2_with fail
  go_loopw [5, 16] (fun vf i wr => ∃ k : Nat, k ≤ os.length ∧ i = .int .i64 k ∧ Hid (BS w w.heap.size (bX x os k) (bF os k) vf wr) ∧ Hid (∀ j, j < k → fCheck (nth os j) = 0)) (fun _ i _ => os.length - (intOf i).toNat)
  case atStart => exact ⟨0, Nat.zero_le _, rfl, HB0, fun _ h => absurd h (Nat.not_lt_zero _)⟩
  case round =>
    obtain ⟨k, hk, rfl, HBS, hno⟩ := hrel
    have hFl := bF_len os k
    obtain ⟨va, vc, hve, hrn⟩ := RN_of_own HBS.out.own (by omega)
    subst hve
    have hnd := HBS.out.box
    by_cases hlt : k < os.length
    · obtain ⟨b, off, a', c', rfl, hb, hc, hu⟩ := (HOS.out.ext HBS.out.e).get k hlt
      by_cases hq : fCheck (nth os k) = 0
      · have HQ := Lib.hid hq
        have hCl := (fCompact_ok (nth os k)).2
        have HCW := Lib.hid (compact_wf (nth os k))
        have HCM : Hid (∀ w, RN w a' (nth os k) → Calls Tryz.prog 46 #[.slice a' (nth os k).length c'] w (fun e w' => RetNF (fCompact (nth os k)) e w w')) := fun w h => compactF_fresh a' c' (nth os k) w h hq
        have HF1 : Hid (bF os (k + 1) = bF os k ++ (fCompact (nth os k)).map (shN (bF os k).length)) := rfl
        have HX1 : Hid (bX x os (k + 1) = if k = 0 then { bX x os k with x := ((bF os (k + 1)).length : Int) - 1 } else { bX x os k with y := ((bF os (k + 1)).length : Int) - 1 }) := rfl
        clear hq hnd hrn
        generalize fCompact (nth os k) = C at *
        generalize hFe : bF os k = F at *
        generalize bX x os k = nd at *
        go_wp2_with (first | (go_at_call 89; refine (check_any a' c' (nth os k) _ hu).mono ?_; rintro e w2 ⟨rfl, hE2⟩; rw [HQ.out]) | (go_at_call 46; refine (HCM.out _ (hu.ext hE2)).mono ?_; rintro e w3 ⟨a3, c3, rfl, hcn, hfr, hE3⟩; have HB3 := Lib.hid (HBS.out.ext' (hE2.trans hE3)); have HCN := Lib.hid hcn; have HAP : Hid (∀ b off, a3 = some ⟨b, off, none⟩ → some b ≠ (Value.slice va F.length vc).ownBlock) := (fun b off e e2 => by have h1 := hfr b off e; have h2 := (HBS.out.own.lt b e2.symm).2; have h3 := hE2.size; omega); clear hcn hfr) | fail)
        go_loopw [5, 29] (fun vf i wi => ∃ q : Nat, q ≤ C.length ∧ i = .int .i64 q ∧ Hid (BS w w.heap.size nd (F ++ (C.take q).map (shN F.length)) vf wi) ∧ Hid (RN wi a3 C) ∧ Hid (∀ b off, a3 = some ⟨b, off, none⟩ → some b ≠ vf.ownBlock)) (fun _ i _ => C.length - (intOf i).toNat)
        case atStart => exact ⟨0, Nat.zero_le _, rfl, by simpa using HB3, HCN, HAP⟩
        case round =>
          obtain ⟨q, hq, rfl, HBI, HCR, HAI⟩ := hrel
          by_cases hql : q < C.length
          · obtain ⟨b3, off3, rfl, hb3, n0, n1, n2, n3, n4, n5⟩ := HCR.out.get hql
            cases hux : (useOf (nth C q).op).1.x
            · have huy : (useOf (nth C q).op).1.y = false := by
                cases hy : (useOf (nth C q).op).1.y
                · rfl
                · have := useOf_yx (nth C q).op hy
                  rw [hux] at this; cases this
              have HSH : Hid (shN F.length (nth C q) = (⟨(nth C q).op, (nth C q).i, (nth C q).e, (nth C q).g, (nth C q).x, (nth C q).y⟩ : Nd)) := by show _ = _; unfold shN; rw [hux, huy]; simp []
              rcases hu : useOf (nth C q).op with ⟨u, ok⟩
              rw [hu] at hux huy
              obtain ⟨z1, z2, z3, z4, z5, z6, z7⟩ := u
              simp only at hux huy
              subst hux; subst huy
              have HU := Lib.hid hu
              have HONE : Hid (∀ u ∈ ndCells (⟨(nth C q).op, (nth C q).i, (nth C q).e, (nth C q).g, (nth C q).x, (nth C q).y⟩ : Nd), u.oneCell' = true) := fun u hu' => by
                simp [ndCells] at hu'
                rcases hu' with rfl | rfl | rfl | rfl | rfl | rfl <;> rfl
              have HPA : Hid (∀ W2, Ext wr W2 → BS w w.heap.size nd (F ++ (C.take q).map (shN F.length)) u5 W2) := fun W2 e => HBI.out.ext' e
              have HSZ : Hid (∀ W2, Ext wr W2 → w.heap.size + 1 ≤ W2.heap.size) := fun W2 e => Nat.le_trans HBI.out.lt e.size
              have hFq : (F ++ (C.take q).map (shN F.length)).length = F.length + q := by simp; omega
              have HPO : Hid (∀ W2, Ext wr W2 → W2.ownsRow (w.heap.size + 1) 109 6 u5 (F.length + q) (rowN (F ++ (C.take q).map (shN F.length)))) := fun W2 e => by have h := (HPA.out W2 e).own; rw [hFq] at h; exact h
              have HFQ := Lib.hid hFq
              clear hu hFq
              go_wp2_with (first | (go_at_call 123; go_loud (refine (uses_any _ _ _ HU.out _).mono ?_; rintro e w4 ⟨rfl, hE4⟩; have hEx := ((Ext.refl wr).alloc _).trans hE4; obtain ⟨y0, y1, y2, y3, y4, y5⟩ := (NdAt.new wr (nth C q) 109).ext hE4; have qx : wr.heap.size < w4.heap.size := (by have := hE4.size; simp at this; omega); have qf : ∀ o, w4.frozen? ⟨wr.heap.size, o, none⟩ = false := (fun o => by rw [World.frozen?_of_block (hE4.block wr.heap.size (by simp))]; simp); try simp only [Nat.zero_add] at y1 y2 y3 y4 y5)) | (at_builtin; go_loud (refine wpList_append_lies _ rfl _ _ 44 rfl (w.heap.size + 1) 109 i0 _ 6 48 Tryz.underlying44 hi1 hz0 hz1 hz2 rfl (by decide) u5 (F.length + q) _ rfl (HPO.out _ ((hEx.alloc _).alloc _)) _ 1 1 (ndCells (⟨(nth C q).op, (nth C q).i, (nth C q).e, (nth C q).g, (nth C q).x, (nth C q).y⟩ : Nd)) rfl rfl (news_at _ (⟨(nth C q).op, (nth C q).i, (nth C q).e, (nth C q).g, (nth C q).x, (nth C q).y⟩ : Nd) _ _ (by simp)) HONE.out (by decide) (by unfold maxLen; omega) (by omega) (HSZ.out _ ((hEx.alloc _).alloc _)) _ rfl ?_; intro gx cap W1 hown hgrow hat hlt2; have hpush := (HPA.out _ ((hEx.alloc _).alloc _)).push (v' := .slice (some ⟨gx, 0, none⟩) (F.length + q + 1) cap) (m := (⟨(nth C q).op, (nth C q).i, (nth C q).e, (nth C q).g, (nth C q).x, (nth C q).y⟩ : Nd)) (by rw [HFQ.out]; exact hown) hgrow; have HPU := Lib.hid hpush; have hne3 := HAI.out b3 off3 rfl; have hkb : W1.heap[b3]? = wr.heap[b3]? := (hgrow.block b3 (Nat.lt_of_lt_of_le hb3 (Ext.size ((hEx.alloc _).alloc _))) hne3).trans (ext_block ((hEx.alloc _).alloc _) b3 hb3); have HCR2 : Hid (RN W1 (some ⟨b3, off3, none⟩) C) := HCR.out.keepB (fun b off e => by cases e; exact hkb); have HAI2 : Hid (∀ b off, (some ⟨b3, off3, none⟩ : Option Addr) = some ⟨b, off, none⟩ → some b ≠ (some gx : Option Nat)) := (fun b off e e2 => by cases e; cases e2; rcases hat with h | h; exact hne3 h.symm; exact absurd hb3 (Nat.not_lt.2 (Nat.le_trans (Ext.size ((hEx.alloc _).alloc _)) (Nat.le_of_eq h.symm)))); clear hpush hown hgrow hat hkb hne3)) | fail)
              go_roundw
              case rel => exact ⟨q + 1, hql, by go_num, by rw [take_sh F C hql, HSH.out]; exact HPU.out, HCR2, HAI2⟩
              case measure => simp [intOf]; omega
            · cases huy : (useOf (nth C q).op).1.y
              · obtain ⟨hx0, hxl⟩ := HCW.out.x_lt hql hux
                obtain ⟨X, hX⟩ := Int.eq_ofNat_of_zero_le hx0
                rw [hX, Int.toNat_natCast] at hxl
                have HSH : Hid (shN F.length (nth C q) = (⟨(nth C q).op, (nth C q).i, (nth C q).e, (nth C q).g, ((X : Int) + (F.length : Int)), (nth C q).y⟩ : Nd)) := by show _ = _; unfold shN; rw [hux, huy]; simp [hX]
                rw [hX] at n4
                clear hx0 hX
                rcases hu : useOf (nth C q).op with ⟨u, ok⟩
                rw [hu] at hux huy
                obtain ⟨z1, z2, z3, z4, z5, z6, z7⟩ := u
                simp only at hux huy
                subst hux; subst huy
                have HU := Lib.hid hu
                have HONE : Hid (∀ u ∈ ndCells (⟨(nth C q).op, (nth C q).i, (nth C q).e, (nth C q).g, ((X : Int) + (F.length : Int)), (nth C q).y⟩ : Nd), u.oneCell' = true) := fun u hu' => by
                  simp [ndCells] at hu'
                  rcases hu' with rfl | rfl | rfl | rfl | rfl | rfl <;> rfl
                have HPA : Hid (∀ W2, Ext wr W2 → BS w w.heap.size nd (F ++ (C.take q).map (shN F.length)) u5 W2) := fun W2 e => HBI.out.ext' e
                have HSZ : Hid (∀ W2, Ext wr W2 → w.heap.size + 1 ≤ W2.heap.size) := fun W2 e => Nat.le_trans HBI.out.lt e.size
                have hFq : (F ++ (C.take q).map (shN F.length)).length = F.length + q := by simp; omega
                have HPO : Hid (∀ W2, Ext wr W2 → W2.ownsRow (w.heap.size + 1) 109 6 u5 (F.length + q) (rowN (F ++ (C.take q).map (shN F.length)))) := fun W2 e => by have h := (HPA.out W2 e).own; rw [hFq] at h; exact h
                have HFQ := Lib.hid hFq
                clear hu hFq
                go_wp2_with (first | (go_at_call 123; go_loud (refine (uses_any _ _ _ HU.out _).mono ?_; rintro e w4 ⟨rfl, hE4⟩; have hEx := ((Ext.refl wr).alloc _).trans hE4; obtain ⟨y0, y1, y2, y3, y4, y5⟩ := (NdAt.new wr (⟨(nth C q).op, (nth C q).i, (nth C q).e, (nth C q).g, (X : Int), (nth C q).y⟩ : Nd) 109).ext hE4; have qx : wr.heap.size < w4.heap.size := (by have := hE4.size; simp at this; omega); have qf : ∀ o, w4.frozen? ⟨wr.heap.size, o, none⟩ = false := (fun o => by rw [World.frozen?_of_block (hE4.block wr.heap.size (by simp))]; simp); try simp only [Nat.zero_add] at y1 y2 y3 y4 y5)) | (at_builtin; go_loud (refine wpList_append_lies _ rfl _ _ 44 rfl (w.heap.size + 1) 109 i0 _ 6 48 Tryz.underlying44 hi1 hz0 hz1 hz2 rfl (by decide) u5 (F.length + q) _ rfl (HPO.out _ (((hEx.setCell (Nat.le_refl _) _).alloc _).alloc _)) _ 1 1 (ndCells (⟨(nth C q).op, (nth C q).i, (nth C q).e, (nth C q).g, ((X : Int) + (F.length : Int)), (nth C q).y⟩ : Nd)) rfl rfl (news_at _ (⟨(nth C q).op, (nth C q).i, (nth C q).e, (nth C q).g, ((X : Int) + (F.length : Int)), (nth C q).y⟩ : Nd) _ _ (by simp)) HONE.out (by decide) (by unfold maxLen; omega) (by omega) (HSZ.out _ (((hEx.setCell (Nat.le_refl _) _).alloc _).alloc _)) _ rfl ?_; intro gx cap W1 hown hgrow hat hlt2; have hpush := (HPA.out _ (((hEx.setCell (Nat.le_refl _) _).alloc _).alloc _)).push (v' := .slice (some ⟨gx, 0, none⟩) (F.length + q + 1) cap) (m := (⟨(nth C q).op, (nth C q).i, (nth C q).e, (nth C q).g, ((X : Int) + (F.length : Int)), (nth C q).y⟩ : Nd)) (by rw [HFQ.out]; exact hown) hgrow; have HPU := Lib.hid hpush; have hne3 := HAI.out b3 off3 rfl; have hkb : W1.heap[b3]? = wr.heap[b3]? := (hgrow.block b3 (Nat.lt_of_lt_of_le hb3 (Ext.size (((hEx.setCell (Nat.le_refl _) _).alloc _).alloc _))) hne3).trans (ext_block (((hEx.setCell (Nat.le_refl _) _).alloc _).alloc _) b3 hb3); have HCR2 : Hid (RN W1 (some ⟨b3, off3, none⟩) C) := HCR.out.keepB (fun b off e => by cases e; exact hkb); have HAI2 : Hid (∀ b off, (some ⟨b3, off3, none⟩ : Option Addr) = some ⟨b, off, none⟩ → some b ≠ (some gx : Option Nat)) := (fun b off e e2 => by cases e; cases e2; rcases hat with h | h; exact hne3 h.symm; exact absurd hb3 (Nat.not_lt.2 (Nat.le_trans (Ext.size (((hEx.setCell (Nat.le_refl _) _).alloc _).alloc _)) (Nat.le_of_eq h.symm)))); clear hpush hown hgrow hat hkb hne3)) | fail)
                go_roundw
                case rel => exact ⟨q + 1, hql, by go_num, by rw [take_sh F C hql, HSH.out]; exact HPU.out, HCR2, HAI2⟩
                case measure => simp [intOf]; omega
              · obtain ⟨hx0, hxl⟩ := HCW.out.x_lt hql hux
                obtain ⟨X, hX⟩ := Int.eq_ofNat_of_zero_le hx0
                rw [hX, Int.toNat_natCast] at hxl
                obtain ⟨hy0, hyl⟩ := HCW.out.y_lt hql huy
                obtain ⟨Y, hY⟩ := Int.eq_ofNat_of_zero_le hy0
                rw [hY, Int.toNat_natCast] at hyl
                have HSH : Hid (shN F.length (nth C q) = (⟨(nth C q).op, (nth C q).i, (nth C q).e, (nth C q).g, ((X : Int) + (F.length : Int)), ((Y : Int) + (F.length : Int))⟩ : Nd)) := by show _ = _; unfold shN; rw [hux, huy]; simp [hX, hY]
                rw [hX] at n4
                rw [hY] at n5
                clear hx0 hX
                clear hy0 hY
                rcases hu : useOf (nth C q).op with ⟨u, ok⟩
                rw [hu] at hux huy
                obtain ⟨z1, z2, z3, z4, z5, z6, z7⟩ := u
                simp only at hux huy
                subst hux; subst huy
                have HU := Lib.hid hu
                have HONE : Hid (∀ u ∈ ndCells (⟨(nth C q).op, (nth C q).i, (nth C q).e, (nth C q).g, ((X : Int) + (F.length : Int)), ((Y : Int) + (F.length : Int))⟩ : Nd), u.oneCell' = true) := fun u hu' => by
                  simp [ndCells] at hu'
                  rcases hu' with rfl | rfl | rfl | rfl | rfl | rfl <;> rfl
                have HPA : Hid (∀ W2, Ext wr W2 → BS w w.heap.size nd (F ++ (C.take q).map (shN F.length)) u5 W2) := fun W2 e => HBI.out.ext' e
                have HSZ : Hid (∀ W2, Ext wr W2 → w.heap.size + 1 ≤ W2.heap.size) := fun W2 e => Nat.le_trans HBI.out.lt e.size
                have hFq : (F ++ (C.take q).map (shN F.length)).length = F.length + q := by simp; omega
                have HPO : Hid (∀ W2, Ext wr W2 → W2.ownsRow (w.heap.size + 1) 109 6 u5 (F.length + q) (rowN (F ++ (C.take q).map (shN F.length)))) := fun W2 e => by have h := (HPA.out W2 e).own; rw [hFq] at h; exact h
                have HFQ := Lib.hid hFq
                clear hu hFq
                go_wp2_with (first | (go_at_call 123; go_loud (refine (uses_any _ _ _ HU.out _).mono ?_; rintro e w4 ⟨rfl, hE4⟩; have hEx := ((Ext.refl wr).alloc _).trans hE4; obtain ⟨y0, y1, y2, y3, y4, y5⟩ := (NdAt.new wr (⟨(nth C q).op, (nth C q).i, (nth C q).e, (nth C q).g, (X : Int), (Y : Int)⟩ : Nd) 109).ext hE4; have qx : wr.heap.size < w4.heap.size := (by have := hE4.size; simp at this; omega); have qf : ∀ o, w4.frozen? ⟨wr.heap.size, o, none⟩ = false := (fun o => by rw [World.frozen?_of_block (hE4.block wr.heap.size (by simp))]; simp); try simp only [Nat.zero_add] at y1 y2 y3 y4 y5)) | (at_builtin; go_loud (refine wpList_append_lies _ rfl _ _ 44 rfl (w.heap.size + 1) 109 i0 _ 6 48 Tryz.underlying44 hi1 hz0 hz1 hz2 rfl (by decide) u5 (F.length + q) _ rfl (HPO.out _ ((((hEx.setCell (Nat.le_refl _) _).setCell (Nat.le_refl _) _).alloc _).alloc _)) _ 1 1 (ndCells (⟨(nth C q).op, (nth C q).i, (nth C q).e, (nth C q).g, ((X : Int) + (F.length : Int)), ((Y : Int) + (F.length : Int))⟩ : Nd)) rfl rfl (news_at _ (⟨(nth C q).op, (nth C q).i, (nth C q).e, (nth C q).g, ((X : Int) + (F.length : Int)), ((Y : Int) + (F.length : Int))⟩ : Nd) _ _ (by simp)) HONE.out (by decide) (by unfold maxLen; omega) (by omega) (HSZ.out _ ((((hEx.setCell (Nat.le_refl _) _).setCell (Nat.le_refl _) _).alloc _).alloc _)) _ rfl ?_; intro gx cap W1 hown hgrow hat hlt2; have hpush := (HPA.out _ ((((hEx.setCell (Nat.le_refl _) _).setCell (Nat.le_refl _) _).alloc _).alloc _)).push (v' := .slice (some ⟨gx, 0, none⟩) (F.length + q + 1) cap) (m := (⟨(nth C q).op, (nth C q).i, (nth C q).e, (nth C q).g, ((X : Int) + (F.length : Int)), ((Y : Int) + (F.length : Int))⟩ : Nd)) (by rw [HFQ.out]; exact hown) hgrow; have HPU := Lib.hid hpush; have hne3 := HAI.out b3 off3 rfl; have hkb : W1.heap[b3]? = wr.heap[b3]? := (hgrow.block b3 (Nat.lt_of_lt_of_le hb3 (Ext.size ((((hEx.setCell (Nat.le_refl _) _).setCell (Nat.le_refl _) _).alloc _).alloc _))) hne3).trans (ext_block ((((hEx.setCell (Nat.le_refl _) _).setCell (Nat.le_refl _) _).alloc _).alloc _) b3 hb3); have HCR2 : Hid (RN W1 (some ⟨b3, off3, none⟩) C) := HCR.out.keepB (fun b off e => by cases e; exact hkb); have HAI2 : Hid (∀ b off, (some ⟨b3, off3, none⟩ : Option Addr) = some ⟨b, off, none⟩ → some b ≠ (some gx : Option Nat)) := (fun b off e e2 => by cases e; cases e2; rcases hat with h | h; exact hne3 h.symm; exact absurd hb3 (Nat.not_lt.2 (Nat.le_trans (Ext.size ((((hEx.setCell (Nat.le_refl _) _).setCell (Nat.le_refl _) _).alloc _).alloc _)) (Nat.le_of_eq h.symm)))); clear hpush hown hgrow hat hkb hne3)) | fail)
                go_roundw
                case rel => exact ⟨q + 1, hql, by go_num, by rw [take_sh F C hql, HSH.out]; exact HPU.out, HCR2, HAI2⟩
                case measure => simp [intOf]; omega
          · obtain rfl : q = C.length := by omega
            have hF1 : bF os (k + 1) = F ++ (C.take C.length).map (shN F.length) := by rw [HF1.out, List.take_length]
            have hFl2 := bF_len os (k + 1)
            have HX2 := HX1.out
            rw [hF1] at hFl2 HX2
            have hF1l : (F ++ (C.take C.length).map (shN F.length)).length = F.length + C.length := by simp
            obtain ⟨vb, vcc, hve2, _⟩ := RN_of_own HBI.out.own (by omega)
            subst hve2
            rw [← hF1] at HBI HX2 hFl2
            generalize hGe : bF os (k + 1) = G at *
            have hfz4 := HBI.out.fz 4
            have hfz5 := HBI.out.fz 5
            obtain ⟨x0, x1, x2, x3, x4, x5⟩ := HBI.out.box
            simp only [Nat.zero_add] at x1 x2 x3 x4 x5
            have HNO : Hid (∀ j, j < k + 1 → fCheck (nth os j) = 0) := fun j hj => by
              rcases Nat.lt_or_ge j k with h | h
              · exact hno.out j h
              · obtain rfl : j = k := by omega
                exact HQ.out
            have hGl : (F ++ List.map (shN F.length) (List.take C.length C)).length = G.length := by rw [hF1]
            rw [hGl]
            have HGE := Lib.hid hGe
            clear HCR HAI HF1 HX1 hF1 hF1l hGl hFe hGe
            by_cases hk0 : k = 0
            · have hq0 : ((k : Int) == 0) = true := by simp [hk0]
              have HX3 : Hid (bX x os (k + 1) = { nd with x := (G.length : Int) - 1 }) := by show _ = _; rw [HX2, if_pos hk0]
              clear hk0 HX2
              go_wp2
              go_roundw
              case rel => exact ⟨k + 1, hlt, by go_num, by rw [HX3.out, HGE.out]; exact HBI.out.setX _, HNO⟩
              case measure => simp [intOf]; omega
            · have hq0 : ((k : Int) == 0) = false := by simp; omega
              have HX3 : Hid (bX x os (k + 1) = { nd with y := (G.length : Int) - 1 }) := by show _ = _; rw [HX2, if_neg hk0]
              clear hk0 HX2
              go_wp2
              go_roundw
              case rel => exact ⟨k + 1, hlt, by go_num, by rw [HX3.out, HGE.out]; exact HBI.out.setY _, HNO⟩
              case measure => simp [intOf]; omega
      · have hn : fB x os = [] := by
          unfold fB
          rw [if_pos]
          have : os.any (fun o => fCheck o != 0) = true := List.any_eq_true.2 ⟨nth os k, by rw [nth_eq _ _ hlt]; exact List.getElem_mem _, by simpa using hq⟩
          rw [this]; rfl
        have HN := Lib.hid hn
        have hq2 : (fCheck (nth os k) != 0) = true := by simp [hq]
        clear hn hq
        go_wp2_with (go_at_call 89; refine (check_any a' c' (nth os k) _ hu).mono ?_; rintro e w2 ⟨rfl, hE2⟩)
        go_ret
        rw [HN.out]
        exact ⟨none, 0, rfl, RN.nil _ _, (fun _ _ h => by cases h), HBS.out.e.trans hE2⟩
    · obtain rfl : k = os.length := by omega
      have hany : (os.any fun o => fCheck o != 0) = false := List.any_eq_false.2 fun o ho => by
        obtain ⟨j, hj, rfl⟩ := List.getElem_of_mem ho
        have := hno.out j hj
        rw [nth_eq _ _ hj] at this
        simp [this]
      have hFw := bF_wf os os.length
      have HFB : Hid (fB x os = if nodeErr (bX x os os.length) (bF os os.length).length != 0 || decide (200 < fsize (bT x os)) then [] else canon (bT x os)) := by show _ = _; unfold fB; rw [hany]; rfl
      have HT : Hid (bT x os = trAt (bF os os.length ++ [bX x os os.length]) (bF os os.length).length) := rfl
      obtain ⟨x0, x1, x2, x3, x4, x5⟩ := hnd
      simp only [Nat.zero_add] at x1 x2 x3 x4 x5
      clear hany hno
      generalize bF os os.length = F at *
      generalize bX x os os.length = nd at *
      generalize bT x os = t at *
      have HND : Hid (BS w w.heap.size nd F (.slice va F.length vc) wr) := HBS
      by_cases he : nodeErr nd F.length = 0
      · have HE := Lib.hid he
        have hwf2 : Wf (F ++ [nd]) := hFw.snoc he
        have hlen2 : (F ++ [nd]).length = F.length + 1 := by simp
        have HWF := Lib.hid hwf2
        have HL2 := Lib.hid hlen2
        have HFB2 : Hid (fB x os = if 200 < fsize t then [] else canon t) := by
          show _ = _
          rw [HFB.out, he]; simp
        have HONE : Hid (∀ u ∈ ndCells nd, u.oneCell' = true) := fun u hu' => by
          simp [ndCells] at hu'
          rcases hu' with rfl | rfl | rfl | rfl | rfl | rfl <;> rfl
        have HPA : Hid (∀ W2, Ext wr W2 → BS w w.heap.size nd F (.slice va F.length vc) W2) := fun W2 e => HND.out.ext' e
        have HSZ : Hid (∀ W2, Ext wr W2 → w.heap.size + 1 ≤ W2.heap.size) := fun W2 e => Nat.le_trans HND.out.lt e.size
        clear he hwf2 hlen2 HFB hrn
        by_cases hbig : 200 < fsize t
        · have HN : Hid (fB x os = []) := by show _ = _; rw [HFB2.out, if_pos hbig]
          clear HFB2
          go_wp2_with (first | (go_at_call 124; go_loud (refine (nodeError_any nd _ _).mono ?_; rintro e w2 ⟨rfl, hE2⟩; rw [HE.out]; obtain ⟨y0, y1, y2, y3, y4, y5⟩ := (HND.out.ext' hE2).box; try simp only [Nat.zero_add] at y1 y2 y3 y4 y5)) | (at_builtin; go_loud (refine wpList_append_lies _ rfl _ _ 44 rfl (w.heap.size + 1) 109 i0 _ 6 48 Tryz.underlying44 hi1 hz0 hz1 hz2 rfl (by decide) (.slice va F.length vc) F.length _ rfl (HPA.out _ (hE2.alloc _)).own _ 1 1 (ndCells nd) rfl rfl (news_at _ nd _ _ (by simp)) HONE.out (by decide) (by unfold maxLen; omega) (by omega) (HSZ.out _ (hE2.alloc _)) _ rfl ?_; intro gx cap W1 hown hgrow hat hlt2; have hpush := (HPA.out _ (hE2.alloc _)).push (v' := .slice (some ⟨gx, 0, none⟩) (F.length + 1) cap) (m := nd) hown hgrow; have HPU := Lib.hid hpush; have HRF : Hid (RN W1 (some ⟨gx, 0, none⟩) (F ++ [nd])) := own_RN hpush.own HL2.out (by rw [HL2.out]; omega); clear hpush hown hgrow hat)) | (go_at_call 125; go_loud (have HCQ := compactQ (some ⟨gx, 0, none⟩) cap (F ++ [nd]) F.length (F.length + 1) _ HRF.out HWF.out (by rw [HL2.out]; omega) (by rw [HL2.out]; omega) HL2.out; refine HCQ.mono ?_; rintro e w5 ⟨⟨ca, cc, rfl, hcan, hfr5⟩, hE5⟩; have HFR : Hid (Fresh ca w.heap.size) := (fun b off h => Nat.le_trans HPU.out.e.size (hfr5 b off h)); clear hfr5; have HEN : Hid (Ext w w5) := HPU.out.e.trans hE5; rw [← HT.out] at hcan ⊢)) | fail)
          go_ret
          rw [HN.out]
          exact ⟨none, 0, rfl, RN.nil _ _, (fun _ _ h => by cases h), HEN.out⟩
        · have HN : Hid (fB x os = canon t) := by show _ = _; rw [HFB2.out, if_neg hbig]
          clear HFB2
          go_wp2_with (first | (go_at_call 124; go_loud (refine (nodeError_any nd _ _).mono ?_; rintro e w2 ⟨rfl, hE2⟩; rw [HE.out]; obtain ⟨y0, y1, y2, y3, y4, y5⟩ := (HND.out.ext' hE2).box; try simp only [Nat.zero_add] at y1 y2 y3 y4 y5)) | (at_builtin; go_loud (refine wpList_append_lies _ rfl _ _ 44 rfl (w.heap.size + 1) 109 i0 _ 6 48 Tryz.underlying44 hi1 hz0 hz1 hz2 rfl (by decide) (.slice va F.length vc) F.length _ rfl (HPA.out _ (hE2.alloc _)).own _ 1 1 (ndCells nd) rfl rfl (news_at _ nd _ _ (by simp)) HONE.out (by decide) (by unfold maxLen; omega) (by omega) (HSZ.out _ (hE2.alloc _)) _ rfl ?_; intro gx cap W1 hown hgrow hat hlt2; have hpush := (HPA.out _ (hE2.alloc _)).push (v' := .slice (some ⟨gx, 0, none⟩) (F.length + 1) cap) (m := nd) hown hgrow; have HPU := Lib.hid hpush; have HRF : Hid (RN W1 (some ⟨gx, 0, none⟩) (F ++ [nd])) := own_RN hpush.own HL2.out (by rw [HL2.out]; omega); clear hpush hown hgrow hat)) | (go_at_call 125; go_loud (have HCQ := compactQ (some ⟨gx, 0, none⟩) cap (F ++ [nd]) F.length (F.length + 1) _ HRF.out HWF.out (by rw [HL2.out]; omega) (by rw [HL2.out]; omega) HL2.out; refine HCQ.mono ?_; rintro e w5 ⟨⟨ca, cc, rfl, hcan, hfr5⟩, hE5⟩; have HFR : Hid (Fresh ca w.heap.size) := (fun b off h => Nat.le_trans HPU.out.e.size (hfr5 b off h)); clear hfr5; have HEN : Hid (Ext w w5) := HPU.out.e.trans hE5; rw [← HT.out] at hcan ⊢)) | fail)
          go_ret
          rw [HN.out]
          exact ⟨ca, cc, by rw [canon_length]; rfl, hcan, HFR.out, HEN.out⟩
      · have HN : Hid (fB x os = []) := by
          show _ = _
          rw [HFB.out, if_pos]
          simp [he]
        have hq2 : (nodeErr nd F.length != 0) = true := by simp [he]
        clear he HFB hrn
        go_wp2_with (go_at_call 124; refine (nodeError_any nd _ _).mono ?_; rintro e w2 ⟨rfl, hE2⟩)
        go_ret
        rw [HN.out]
        exact ⟨none, 0, rfl, RN.nil _ _, (fun _ _ h => by cases h), HND.out.e.trans hE2⟩
theorem RetNF.n {l : List Nd} {e : Ending} {w w' : World} (h : RetNF l e w w') : RetN l e w w' := by
  obtain ⟨a, c, h1, h2, _, h3⟩ := h
  exact ⟨a, c, h1, h2, h3⟩
theorem build_any (x : Nd) (oa : Option Addr) (oc : Nat) (os : List (List Nd)) (w : World) (hos : RNN w oa os) (h2 : os.length ≤ 2) :
    Calls Tryz.prog 82 #[.agg #[.int .i64 x.op, .int .i64 x.i, .int .i64 x.e, .int .i64 x.g, .int .i64 x.x, .int .i64 x.y], .slice oa os.length oc] w fun e w' => RetN (fB x os) e w w' :=
  (build_fresh x oa oc os w hos h2).mono fun _ _ h => h.n
end Wt
