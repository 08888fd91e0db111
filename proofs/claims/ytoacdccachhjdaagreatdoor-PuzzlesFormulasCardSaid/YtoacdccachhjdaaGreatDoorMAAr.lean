/- Walk: wittingref05.put. -/
import Derived.Test.YtoacdccachhjdaaGreatDoorMAAq
import Derived.Test.YtoacdccachhjdaaGreatDoorMAAj
import Derived.Deep.RegionHeld3
import Derived.Deep.RegionLaw
import Derived.Deep.AppendLies
namespace Wt
open Go Go.RowKit Go.Maps Go.Proofs Fm

def PutPost (w : World) (wb g c : Nat) (l : List Nd) (W : World) (L : List Fm) (v : Value) (D : List Int) (t : Fm) (e : Ending) (W' : World) : Prop :=
  ∃ v', e = .returned (.int .i64 (idx (put t L) t)) ∧ RS w wb g c l W' (put t L) v' D ∧ FR wb g v W W' v'
set_option maxRecDepth 20000 in
set_option maxHeartbeats 2000000 in
theorem r5put_any {w : World} {wb g c : Nat} {l : List Nd} {W : World} {L : List Fm} {v : Value} {D : List Int} (h : RS w wb g c l W L v D) (hl : l.length ≤ 1000) {t : Fm} (n : Nd) (hk : ∀ c, kid c t → c ∈ L) (ht : fok t) (hs : t ∈ (List.range l.length).map (trAt l)) (hn : ndOf L t = n) :
    Calls Tryz.prog 190 #[.pointer (some ⟨wb, 0, none⟩), .agg #[.int .i64 n.op, .int .i64 n.i, .int .i64 n.e, .int .i64 n.g, .int .i64 n.x, .int .i64 n.y]] W (PutPost w wb g c l W L v D t) := by
  obtain ⟨va, vc, rfl, hrn⟩ := h.slice hl
  have hx := NdAt.new W n 109
  have hE0 : Ext W (W.alloc (.cells #[.int .i64 n.op, .int .i64 n.i, .int .i64 n.e, .int .i64 n.g, .int .i64 n.x, .int .i64 n.y] 109)) := (Ext.refl W).alloc _
  have hlen := h.len
  have HX := Lib.hid hx
  have HE0 := Lib.hid hE0
  have H := Lib.hid h
  have HN := Lib.hid hn
  have HK := Lib.hid hk
  have HT := Lib.hid ht
  have HS := Lib.hid hs
  have HRN := Lib.hid hrn
  have c0 := h.co
  clear hx hE0 h hn hk ht hs hrn
  go_enter Tryz.func190, Tryz.ntmps190
  go_wp2
  go_loopw [5] (fun i wr => ∃ k : Nat, k ≤ L.length ∧ i = .int .i64 k ∧ Qu (W.alloc (.cells #[.int .i64 n.op, .int .i64 n.i, .int .i64 n.e, .int .i64 n.g, .int .i64 n.x, .int .i64 n.y] 109)) wr ∧ Hid (∀ j, 0 ≤ j → j < k → nth (encL L) j ≠ n)) (fun i _ => L.length - (intOf i).toNat)
  case atStart => exact ⟨0, Nat.zero_le _, rfl, Qu.refl _, fun _ _ h => absurd h (Nat.not_lt_zero _)⟩
  case round =>
    obtain ⟨k, hk, rfl, hq, hno⟩ := hrel
    have hE : Ext W wr := HE0.out.trans hq.ext
    have hR := H.out.ext' hE
    have HR := Lib.hid hR
    have HQ := Lib.hid hq
    have HEE := Lib.hid hE
    clear c0
    obtain ⟨x0, x1, x2, x3, x4, x5⟩ := HX.out.ext hq.ext
    simp only [Nat.zero_add] at x1 x2 x3 x4 x5
    have c0 := hR.co
    by_cases hlt : k < L.length
    · obtain ⟨b, off, rfl, hb, n0, n1, n2, n3, n4, n5⟩ := (HRN.out.ext hE).get (k := k) (by rw [encL_length]; exact hlt)
      clear hR hq hE
      by_cases hq2 : nth (encL L) k = n
      · obtain ⟨hm, hidx⟩ := HR.out.found HK.out HT.out hlt (hq2.trans HN.out.symm)
        rw [hq2] at n0 n1 n2 n3 n4 n5
        have hcmp : ∀ W, (binOp .eql 109 (.agg #[.int .i64 n.op, .int .i64 n.i, .int .i64 n.e, .int .i64 n.g, .int .i64 n.x, .int .i64 n.y]) (.agg #[.int .i64 n.op, .int .i64 n.i, .int .i64 n.e, .int .i64 n.g, .int .i64 n.x, .int .i64 n.y])).run Tryz.prog W = .ok (.bool true) W := fun W => (run_nd_eql n n W).trans (by simp)
        have HM := Lib.hid hm
        have HI := Lib.hid hidx
        clear hm hidx hq2
        go_wp2_with fail
        go_quiet (fail)
        go_wp2
        go_ret
        refine ⟨_, ?_, ?_, (FR.refl wb g _ W).ext (HEE.out.drewN _)⟩
        · rw [put_of_mem HM.out, ← HI.out]; rfl
        · rw [put_of_mem HM.out]; exact HR.out.ext' ((Ext.refl _).drewN _)
      · have hcmp : ∀ W, (binOp .eql 109 (.agg #[.int .i64 (nth (encL L) k).op, .int .i64 (nth (encL L) k).i, .int .i64 (nth (encL L) k).e, .int .i64 (nth (encL L) k).g, .int .i64 (nth (encL L) k).x, .int .i64 (nth (encL L) k).y]) (.agg #[.int .i64 n.op, .int .i64 n.i, .int .i64 n.e, .int .i64 n.g, .int .i64 n.x, .int .i64 n.y])).run Tryz.prog W = .ok (.bool false) W := fun W => (run_nd_eql (nth (encL L) k) n W).trans (by simp [hq2])
        have HQ2 := Lib.hid hq2
        clear hq2
        go_wp2_with fail
        go_quiet (fail)
        go_wp2
        go_roundw
        case rel =>
          exact ⟨k + 1, hlt, by go_num, HQ.out.drewN _, fun j h0 hj => by
            rcases Nat.lt_or_ge j k with h | h
            · exact hno.out j h0 h
            · obtain rfl : j = k := by omega
              exact HQ2.out⟩
        case measure => simp [intOf]; omega
    · obtain rfl : k = L.length := by omega
      have HM := Lib.hid (HR.out.none (t := t) (fun j h0 hj => by rw [HN.out]; exact hno.out j h0 hj))
      clear hR hq hE
      obtain ⟨i0, hi1, hz0, hz1, hz2⟩ := info_parts node_info
      have hqq := HQ.out.ext.size
      simp at hqq
      have hwb := HR.out.hi
      have HO : Hid (∀ o, RS w wb g c l (wr.drew.alloc o) L (.slice va L.length vc) D) := fun o => HR.out.ext' (((Ext.refl wr).drew).alloc o)
      have hnews := news_of wr.drew n 109
      have hone : ∀ u ∈ ndCells n, u.oneCell' = true := by
        intro u hu'
        simp [ndCells] at hu'
        rcases hu' with rfl | rfl | rfl | rfl | rfl | rfl <;> rfl
      have HNW := Lib.hid hnews
      have HON := Lib.hid hone
      have hvb := HR.out.vb
      have hn1 : some wb ≠ (Value.slice va L.length vc).ownBlock := fun e => by have := (hvb wb e.symm).1; omega
      have hn2 : some W.heap.size ≠ (Value.slice va L.length vc).ownBlock := fun e => by have := (H.out.vb _ e.symm).2; omega
      have HN1 := Lib.hid hn1
      have HN2 := Lib.hid hn2
      have HNK : Hid (∀ o w1, (wr.drew.alloc o).grownBy w1 (Value.slice va L.length vc).ownBlock → w1.cell? ⟨wb, 0, none⟩ = some (.slice va L.length vc) ∧ w1.cell? ⟨W.heap.size, 0, none⟩ = some (.int .i64 n.op) ∧ w1.cell? ⟨W.heap.size, 1, none⟩ = some (.int .i64 n.i) ∧ w1.cell? ⟨W.heap.size, 2, none⟩ = some (.int .i64 n.e) ∧ w1.cell? ⟨W.heap.size, 3, none⟩ = some (.int .i64 n.g) ∧ w1.cell? ⟨W.heap.size, 4, none⟩ = some (.int .i64 n.x) ∧ w1.cell? ⟨W.heap.size, 5, none⟩ = some (.int .i64 n.y)) := by
        intro o w1 hg
        have e := ((Ext.refl wr).drew.alloc o)
        exact ⟨hg.cell (e.cell c0) hn1, hg.cell (e.cell x0) hn2, hg.cell (e.cell x1) hn2, hg.cell (e.cell x2) hn2, hg.cell (e.cell x3) hn2, hg.cell (e.cell x4) hn2, hg.cell (e.cell x5) hn2⟩
      have HFZ : Hid (∀ o w1, (wr.drew.alloc o).grownBy w1 (Value.slice va L.length vc).ownBlock → w1.frozen? ⟨wb, 0, none⟩ = false) := by
        intro o w1 hg
        rw [World.frozen?_of_block (hg.block wb (by simp; omega) hn1)]
        exact (HO.out o).fz 0
      clear hnews hone hn1 hn2 hvb
      go_wp2_with fail
      go_region_law (refine step_append_lies _ (by rfl) _ _ 44 (by rfl) (wb + 1) 109 i0 _ 6 48 Tryz.underlying44 hi1 hz0 hz1 hz2 rfl (by decide) (.slice va L.length vc) L.length (rowN (encL L)) (by rfl) (HO.out _).own ⟨wr.heap.size, 0, none⟩ 1 1 (ndCells n) (by rfl) (by rfl) HNW.out HON.out (by decide) (by unfold maxLen; omega) (by omega) (by simp; omega) (wr.heap.size + 1) (by simp) ?_; intro gx cap w1 hown1 hgrow hat hlt2; have fz1 := HFZ.out _ _ hgrow; obtain ⟨y0, y1, y2, y3, y4, y5, y6⟩ := HNK.out _ _ hgrow)
      all_goals
        have hpush := (HO.out (.cells #[.int .i64 n.op, .int .i64 n.i, .int .i64 n.e, .int .i64 n.g, .int .i64 n.x, .int .i64 n.y] 109)).push (v' := .slice (some ⟨gx, 0, none⟩) (L.length + 1) cap) HM.out HK.out HT.out HS.out (by rw [HN.out]; exact hown1) hgrow (hat.elim (fun e => .inl e.symm) (fun e => .inr fun b hb => by cases hb; simp; omega))
        have HP := Lib.hid hpush
        clear hpush hgrow hown1 hat
        go_wp2
        go_ret
        have hput : put t L = L ++ [t] := by unfold put; rw [if_neg HM.out]
        refine ⟨_, ?_, by rw [hput]; exact HP.out.1, FR.pre (HEE.out.drew.alloc _) HP.out.2⟩
        rw [hput, idx_new HM.out]
        go_num
end Wt
