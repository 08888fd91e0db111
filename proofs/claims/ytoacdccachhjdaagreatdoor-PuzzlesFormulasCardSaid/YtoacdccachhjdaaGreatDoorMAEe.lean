/- wittingref05.node: all patterns (printed by gen_rfb.py). -/
import Derived.Test.YtoacdccachhjdaaGreatDoorMAEb
import Derived.Test.YtoacdccachhjdaaGreatDoorMAEc
import Derived.Test.YtoacdccachhjdaaGreatDoorMAEd
import Derived.Test.YtoacdccachhjdaaGreatDoorMAEa
import Derived.Deep.AppendLies
import Derived.Test.YtoacdccachhjdaaGreatDoorMAAb
import Derived.Deep.RegionHeld3
namespace Wt
open Go Go.RowKit Go.Maps Go.Proofs Fm

set_option maxHeartbeats 1000000 in
theorem r5node_any (n : Nd) (a : Int) (w : World) :
    Calls Tryz.prog 129 #[.agg #[.int .i64 n.op, .int .i64 n.i, .int .i64 n.e, .int .i64 n.g, .int .i64 n.x, .int .i64 n.y], .int .i64 a] w fun e w' => e = .returned (.int .i64 (nodeErr n a)) ∧ Ext w w' := by
  obtain ⟨op, i, ev, g, x, y⟩ := n
  dsimp only
  by_cases h : (useOf op).2 = true
  · have h0 : 1 ≤ op ∧ op ≤ 21 := by rw [r5ok_eq] at h; simpa using h
    obtain ⟨fr, h' | h' | h' | h' | h' | h' | h' | h' | h'⟩ := useOf_pat op h
    · exact r5node_0 op i ev g x y a fr w h0.1 h0.2 h'
    · exact r5node_1 op i ev g x y a fr w h0.1 h0.2 h'
    · exact r5node_2 op i ev g x y a fr w h0.1 h0.2 h'
    · exact r5node_3 op i ev g x y a fr w h0.1 h0.2 h'
    · exact r5node_4 op i ev g x y a fr w h0.1 h0.2 h'
    · exact r5node_5 op i ev g x y a fr w h0.1 h0.2 h'
    · exact r5node_6 op i ev g x y a fr w h0.1 h0.2 h'
    · exact r5node_7 op i ev g x y a fr w h0.1 h0.2 h'
    · exact r5node_8 op i ev g x y a fr w h0.1 h0.2 h'
  · exact r5node_low op i ev g x y a w (by rw [r5ok_eq] at h; simp at h; omega)
end Wt

/- Walks: wittingref05.Check. -/
namespace Wt
open Go Go.RowKit Go.Maps Go.Proofs Fm

set_option maxHeartbeats 1000000 in
theorem r5Check_any (fa : Option Addr) (fc : Nat) (l : List Nd) (w : World) (hr : RN w fa l) :
    Calls Tryz.prog 126 #[.slice fa l.length fc] w fun e w' => e = .returned (.int .i64 (fCheck l)) ∧ Ext w w' := by
  have hl := hr.len
  by_cases h1 : l.length = 0
  · have hn : fCheck l = 3 := by unfold fCheck; rw [if_pos h1]
    have HN := Lib.hid hn
    have H1 : ((l.length : Int) == 0) = true := by simp [h1]
    clear hn h1
    go_enter Tryz.func126, Tryz.ntmps126
    go_wp2
    go_ret
    exact ⟨by rw [HN.out]; rfl, Ext.refl w⟩
  · by_cases h2 : 200 < l.length
    · have hn : fCheck l = 8 := by unfold fCheck; rw [if_neg h1, if_pos h2]
      have HN := Lib.hid hn
      have H1 : ((l.length : Int) == 0) = false := by simp [h1]
      clear hn h1
      go_enter Tryz.func126, Tryz.ntmps126
      go_wp2
      go_ret
      exact ⟨by rw [HN.out]; rfl, Ext.refl w⟩
    · have hn : fCheck l = errFrom l l.length 0 := by unfold fCheck; rw [if_neg h1, if_neg h2]
      have HN := Lib.hid hn
      have H1 : ((l.length : Int) == 0) = false := by simp [h1]
      clear hn h1
      go_enter Tryz.func126, Tryz.ntmps126
      go_wp2
      go_loopw [3] (fun i wr => ∃ k : Nat, k ≤ l.length ∧ i = .int .i64 k ∧ Ext w wr ∧ Hid (∀ j, 0 ≤ j → j < k → nodeErr (nth l j) j = 0)) (fun i _ => l.length - (intOf i).toNat)
      case atStart => exact ⟨0, Nat.zero_le _, rfl, Ext.refl _, fun _ _ h => absurd h (Nat.not_lt_zero _)⟩
      case round =>
        obtain ⟨k, hk, rfl, hE, hno⟩ := hrel
        by_cases hlt : k < l.length
        · obtain ⟨b, off, rfl, hb, n0, n1, n2, n3, n4, n5⟩ := (hr.ext hE).get hlt
          by_cases hq : nodeErr (nth l k) k = 0
          · have HQ := Lib.hid hq
            clear hq
            go_wp2_with (go_at_call 129; refine (r5node_any (nth l k) _ _).mono ?_; rintro e w1 ⟨rfl, hE1⟩; rw [HQ.out])
            go_roundw
            case rel => exact ⟨k + 1, hlt, by go_num, hE.trans hE1, fun j h0 hj => by
              rcases Nat.lt_or_ge j k with h | h
              · exact hno j h0 h
              · obtain rfl : j = k := by omega
                exact HQ.out⟩
            case measure => simp [intOf]; omega
          · have HQ := Lib.hid hq
            have hq2 : (nodeErr (nth l k) k != 0) = true := by simp [hq]
            clear hq
            go_wp2_with (go_at_call 129; refine (r5node_any (nth l k) _ _).mono ?_; rintro e w1 ⟨rfl, hE1⟩)
            go_ret
            exact ⟨by rw [HN.out, errFrom_first l k _ 0 (Nat.zero_le _) (by omega) hno HQ.out]; rfl, hE.trans hE1⟩
        · go_wp2
          go_ret
          exact ⟨by rw [HN.out, errFrom_none l _ 0 (fun j h0 hj => hno j h0 (by omega))]; rfl, hE⟩

end Wt

/- Walks: wittingref05.Sub, Compact. -/
namespace Wt
open Go Go.RowKit Go.Maps Go.Proofs Fm

theorem int_infoG : (Tryz.prog.info? 3).map (fun i => (i.zero, i.size, i.bytes)) = some (some (.int .i64 0), 1, 8) := by kernel_rfl
/-- Ahead of the walk over the nodes: k of them are marked as not done. -/
structure PS (wb : Nat) (w1 : World) (k : Nat) (wr : World) (vd : Value) : Prop where
  e : Ext w1 wr
  hi : wb < wr.heap.size
  c0 : wr.cell? ⟨wb, 0, none⟩ = some (.slice none 0 0)
  c1 : wr.cell? ⟨wb, 1, none⟩ = some vd
  fz : ∀ o, wr.frozen? ⟨wb, o, none⟩ = false
  own : wr.ownsRow (wb + 1) 3 1 vd k (List.replicate k (.int .i64 (-1)))
def PSE (wb : Nat) (w1 : World) (k : Nat) (wr : World) : Prop := ∃ vd, PS wb w1 k wr vd
theorem PS.start (w1 : World) (T : Nat) : PS w1.heap.size w1 0 (w1.alloc (.cells #[.slice none 0 0, .slice none 0 0] T)) (.slice none 0 0) :=
  ⟨(Ext.refl w1).alloc _, by simp, by simp, by simp, fun o => by simp, World.ownsRow_nil _ _ _ _⟩
theorem PS.ext' {wb : Nat} {w1 : World} {k : Nat} {wr w' : World} {vd : Value} (h : PS wb w1 k wr vd) (e : Ext wr w') : PS wb w1 k w' vd := by
  refine ⟨h.e.trans e, by have := e.size; have := h.hi; omega, e.cell h.c0, e.cell h.c1, fun o => ?_, ?_⟩
  · rw [World.frozen?_of_block (w := wr) (e.block _ h.hi)]; exact h.fz o
  · exact h.own.kept (row := none) ⟨e.os, e.tape, e.output, e.size, fun k hk _ => e.block k hk⟩ (by cases vd.ownBlock <;> simp)
theorem PS.push {wb : Nat} {w1 : World} {k : Nat} {wr W1 : World} {vd v' : Value} (h : PS wb w1 k wr vd) (hwb : w1.heap.size ≤ wb) (ho : W1.ownsRow (wb + 1) 3 1 v' (k + 1) (List.replicate k (.int .i64 (-1)) ++ [.int .i64 (-1)]))
    (g1 : wr.grownBy W1 vd.ownBlock) : PS wb w1 (k + 1) (W1.setCell ⟨wb, 1, none⟩ v') v' := by
  have hz := h.hi
  have hvb := h.own.lt
  have hwv : some wb ≠ vd.ownBlock := fun e => by have := (hvb wb e.symm).1; omega
  have hlt := ho.lt
  have hwv' : v'.ownBlock ≠ some wb := fun e => by have := (hlt wb e).1; omega
  refine ⟨(ext_of_grown h.e g1 (fun k hk => by have := (hvb k hk).1; omega)).setCell (by simpa using hwb) _, by have := g1.size; simp [World.setCell]; omega, ?_, World.cell?_setCell_same _ _ _ (g1.cell h.c1 (by simpa using hwv)), fun o => ?_, ?_⟩
  · rw [World.cell?_setCell_other _ _ _ _ (by simp)]; exact g1.cell h.c0 (by simpa using hwv)
  · rw [World.frozen?_setCell, World.frozen?_of_block (g1.block wb hz hwv)]; exact h.fz o
  · rw [List.replicate_succ']
    exact ho.kept (row := some wb) ⟨rfl, rfl, rfl, by simp, fun j _ hj => heap_setCell_other W1 ⟨wb, 1, none⟩ j v' (fun e => hj (by simp [e]))⟩ (.inr hwv')
/-- All are marked: the walk may begin. -/
theorem PS.ready {wb : Nat} {w w1 : World} {wr : World} {vd : Value} {l : List Nd} (h : PS wb w1 l.length wr vd) (hw : Ext w w1) (hwb : w1.heap.size ≤ wb) (hl : 0 < l.length) : ∃ g c, vd = .slice (some ⟨g, 0, none⟩) l.length c ∧ RS w wb g c l wr [] (.slice none 0 0) (List.replicate l.length (-1)) := by
  rcases h.own.2 with ⟨_, h0⟩ | ⟨g, cap, cur, rfl, hb, hg, rest⟩
  · omega
  · refine ⟨g, cap, rfl, ⟨by have := hw.size; omega, h.hi, hw.trans h.e, h.c0, h.c1, h.fz, World.ownsRow_nil _ _ _ _, ⟨by simp, ?_⟩, by simp [Value.ownBlock], fun i hi => .inl ?_, List.nodup_nil, Cl.nil, (fun _ h => by simp at h), (fun _ h => by simp at h)⟩⟩
    · rw [List.map_replicate]; exact h.own
    · rw [nth_eq _ _ (by simpa using hi)]; simp
set_option maxRecDepth 20000 in
set_option maxHeartbeats 2000000 in
theorem r5Sub_any (fa : Option Addr) (fc : Nat) (l : List Nd) (i : Int) (w : World) (hr : RN w fa l) :
    Calls Tryz.prog 152 #[.slice fa l.length fc, .int .i64 i] w (RetN (fSub l i) · w ·) := by
  by_cases h1 : fCheck l = 0
  · by_cases h2 : i < 0
    · have hN : fSub l i = [] := if_neg (by omega)
      have HN := Lib.hid hN
      have HC := Lib.hid h1
      clear hN h1
      go_enter Tryz.func152, Tryz.ntmps152
      go_wp2_with (go_at_call 126; refine (r5Check_any fa fc l _ hr).mono ?_; rintro e w1 ⟨rfl, hE1⟩; rw [HC.out])
      go_ret
      rw [HN.out]
      exact ⟨none, 0, rfl, RN.nil _ _, by assumption⟩
    · obtain ⟨k, rfl⟩ := Int.eq_ofNat_of_zero_le (show 0 ≤ i by omega)
      by_cases h3 : k < l.length
      · obtain ⟨hl0, hl1, hw⟩ := fCheck_ok.1 h1
        have hN : fSub l k = canon (trAt l k) := if_pos ⟨h1, by omega, by omega⟩
        have HN := Lib.hid hN
        have HC := Lib.hid h1
        have HW := Lib.hid hw
        have HR := Lib.hid hr
        clear hN h1 hw hr
        obtain ⟨i0, hi1, hz0, hz1, hz2⟩ := info_parts int_infoG
        have hn1 : decide ((k : Int) < 0) = false := by simp
        have hn2 : decide (l.length ≤ k) = false := by simp; omega
        go_enter Tryz.func152, Tryz.ntmps152
        go_wp2_with (go_at_call 126; refine (r5Check_any fa fc l _ HR.out).mono ?_; rintro e w1 ⟨rfl, hE1⟩; rw [HC.out])
        go_loopw [6] (fun i wr => ∃ k : Nat, k ≤ l.length ∧ i = .int .i64 k ∧ PSE w1.heap.size w1 k wr) (fun i _ => l.length - (intOf i).toNat)
        case atStart => exact ⟨0, Nat.zero_le _, rfl, _, PS.start w1 _⟩
        case round =>
          obtain ⟨q, hq, rfl, vd, hp⟩ := hrel
          by_cases hlt : q < l.length
          · have c0 := hp.c0
            have c1 := hp.c1
            have hz := hp.hi
            have HP := Lib.hid hp
            have HO : Hid (∀ o, (wr.alloc o).ownsRow (w1.heap.size + 1) 3 1 vd q (List.replicate q (.int .i64 (-1)))) := fun o => (hp.ext' ((Ext.refl wr).alloc o)).own
            have HPA : Hid (∀ o, PS w1.heap.size w1 q (wr.alloc o) vd) := fun o => hp.ext' ((Ext.refl wr).alloc o)
            have hvb := hp.own.lt
            have HNV : Hid (some w1.heap.size ≠ vd.ownBlock) := fun e => by have := (hvb _ e.symm).1; omega
            have HFZ : Hid (∀ o W1, (wr.alloc o).grownBy W1 vd.ownBlock → W1.frozen? ⟨w1.heap.size, 1, none⟩ = false) := by
              intro o W1 hg
              have hlt : w1.heap.size < (wr.alloc o).heap.size := by have : (wr.alloc o).heap.size = wr.heap.size + 1 := by simp
                                                                     omega
              rw [World.frozen?_of_block (hg.block w1.heap.size hlt HNV.out)]
              exact (HPA.out o).fz 1
            have HONE : Hid (∀ u ∈ [Value.int .i64 (-1)], u.oneCell' = true) := fun u hu => by
              rcases List.mem_singleton.1 hu with rfl
              rfl
            have hsz1 : w1.heap.size + 1 ≤ wr.heap.size := hz
            clear hp hvb
            go_wp2_with (at_builtin; go_loud (refine wpList_append_lies _ rfl _ _ 22 rfl (w1.heap.size + 1) 3 i0 _ 1 8 Tryz.underlying22 hi1 hz0 hz1 hz2 rfl (by decide) vd q (List.replicate q (.int .i64 (-1))) rfl (HO.out _) ⟨wr.heap.size, 0, none⟩ 1 1 [.int .i64 (-1)] rfl rfl (cell_one_new _ _ _) HONE.out (by decide) (by unfold maxLen; omega) (by omega) (Nat.le_trans hsz1 (by simp)) (wr.heap.size + 1) (by simp) ?_; intro gx cap W1 hown hgrow hat hlt2; have y1 := hgrow.cell ((HPA.out _).c1) HNV.out; have fz1 := HFZ.out _ _ hgrow; have hpush := (HPA.out _).push (Nat.le_refl _) hown hgrow; have HPU := Lib.hid hpush; clear hpush hown hgrow hat))
            go_roundw
            case rel =>
              exact ⟨q + 1, hlt, by go_num, _, HPU.out⟩
            case measure => simp [intOf]; omega
          · obtain rfl : q = l.length := by omega
            obtain ⟨g, c, rfl, hrs⟩ := hp.ready (w := w) (by assumption) (Nat.le_refl _) hl0
            have HF := Lib.hid (r5finish_any (fc := fc) HR.out HW.out (by omega) (k + 1) k (by omega) h3 _ _ _ _ hrs)
            have c0 := hp.c0
            clear hrs hp
            go_wp2_with (go_at_call 165; refine HF.out.mono ?_; rintro e w2 ⟨v', D', rfl, hR2, hF2⟩; have c2 := hR2.co; have HR2 := Lib.hid hR2; clear hR2 hF2)
            go_ret
            obtain ⟨va, vc, rfl, hrn⟩ := HR2.out.slice (by omega)
            rw [HN.out]
            have hcl : (canon (trAt l k)).length = (addT (trAt l k) []).length := by simp [canon, encL]
            exact ⟨va, vc, by rw [hcl]; rfl, hrn, HR2.out.ext⟩
      · have hN : fSub l k = [] := if_neg (by omega)
        have HN := Lib.hid hN
        have HC := Lib.hid h1
        clear hN h1
        go_enter Tryz.func152, Tryz.ntmps152
        go_wp2_with (go_at_call 126; refine (r5Check_any fa fc l _ hr).mono ?_; rintro e w1 ⟨rfl, hE1⟩; rw [HC.out])
        go_ret
        rw [HN.out]
        exact ⟨none, 0, rfl, RN.nil _ _, by assumption⟩
  · have hN : fSub l i = [] := if_neg (fun h => h1 h.1)
    have HN := Lib.hid hN
    have hq : (fCheck l != 0) = true := by simp [h1]
    clear hN h1
    go_enter Tryz.func152, Tryz.ntmps152
    go_wp2_with (go_at_call 126; refine (r5Check_any fa fc l _ hr).mono ?_; rintro e w1 ⟨rfl, hE1⟩)
    go_ret
    rw [HN.out]
    exact ⟨none, 0, rfl, RN.nil _ _, by assumption⟩
set_option maxHeartbeats 1000000 in
theorem r5Compact_any (fa : Option Addr) (fc : Nat) (l : List Nd) (w : World) (hr : RN w fa l) :
    Calls Tryz.prog 112 #[.slice fa l.length fc] w fun e w' => RetN (fCompact l) e w w' := by
  have hl := hr.len
  go_enter Tryz.func112, Tryz.ntmps112
  go_wp2_with (go_at_call 152; refine (r5Sub_any _ _ l _ _ hr).mono ?_; rintro e w1 ⟨a, c, rfl, hc, hE⟩)
  go_ret
  exact ⟨_, _, rfl, hc, hE⟩
end Wt

/- Walks: wittingref13.group, Group, Meet. -/
namespace Wt
open Go Go.RowKit Go.Maps Go.Proofs Fm

/-- What a round keeps. -/
structure GS (w0 : World) (f : Nat → BitVec 64) (k : Nat) (v : Value) (wr : World) : Prop where
  e : Ext w0 wr
  own : wr.ownsRow w0.heap.size 63 1 v k (((List.range k).map f).map uv)
def GSE (w0 : World) (f : Nat → BitVec 64) (k : Nat) (v : Value) (wr : World) : Prop := GS w0 f k v wr
theorem GS.ext' {w0 : World} {f : Nat → BitVec 64} {k : Nat} {v : Value} {wr w' : World} (h : GS w0 f k v wr) (e : Ext wr w') : GS w0 f k v w' :=
  ⟨h.e.trans e, h.own.kept (row := none) ⟨e.os, e.tape, e.output, e.size, fun k hk _ => e.block k hk⟩ (by cases v.ownBlock <;> simp)⟩
theorem GS.push {w0 : World} {f : Nat → BitVec 64} {k : Nat} {v v' : Value} {wr W1 : World} (h : GS w0 f k v wr) (ho : W1.ownsRow w0.heap.size 63 1 v' (k + 1) (((List.range k).map f).map uv ++ [uv (f k)])) (g : wr.grownBy W1 v.ownBlock) : GS w0 f (k + 1) v' W1 := by
  refine ⟨ext_of_grown h.e g (fun b hb => (h.own.lt b hb).1), ?_⟩
  rw [List.range_succ, List.map_append, List.map_append]
  exact ho
theorem GS.done {w0 : World} {f : Nat → BitVec 64} {k : Nat} {v : Value} {wr : World} (h : GS w0 f k v wr) (hk : k ≤ 1000) : ∃ a c, v = .slice a k c ∧ RU wr a ((List.range k).map f) := by
  have ho : OU wr w0.heap.size v ((List.range k).map f) := by
    have := h.own
    unfold OU
    simpa using this
  obtain ⟨a, c, hv, hu⟩ := RU_of_OU ho (by simp; omega)
  exact ⟨a, c, by simpa using hv, hu⟩
set_option maxRecDepth 20000 in
set_option maxHeartbeats 4000000 in
theorem r13group_false (M : Mo) (va ra : Option Addr) (vc rc : Nat) (G N : Nat) (w : World) (hr : RM w va ra M) (ok : MoOk M N) (h1 : 1 ≤ G) (h2 : (G : Int) < p2 M.rel.length) :
    Calls Tryz.prog 196 #[.agg #[.int .i64 M.worlds, .slice va M.val.length vc, .slice ra M.rel.length rc], .int .i64 (G : Int), .bool false] w fun e w' => RetU (gRows false M.rel G N) e w w' := by
  obtain ⟨W, V, R⟩ := M
  have hW := ok.worlds
  have hrl := ok.rel
  have hvl := ok.val
  have hrow := ok.row
  have hNm := ok.most
  have hck := ok.check
  dsimp only at hW hrl hvl hrow h2 ⊢
  subst hW
  have hG : G < 16 := by
    unfold p2 at h2
    have : 2 ^ R.length ≤ 2 ^ 4 := Nat.pow_le_pow_right (by omega) hrl
    omega
  have hE0 : Ext w (w.alloc (.cells #[.int .i64 (N : Int), .slice va V.length vc, .slice ra R.length rc] 28)) := (Ext.refl w).alloc _
  have hm0 := hr.ext hE0
  have hbx := MoBox.new w (N : Int) V R va vc ra rc 28
  have HCK := Lib.hid (r13Check_any ⟨N, V, R⟩ va ra vc rc _ hm0)
  have HC0 := Lib.hid hck
  have HRel := Lib.hid hr.rel
  have HBX := Lib.hid hbx
  have HE0 := Lib.hid hE0
  have HROW := Lib.hid hrow
  obtain ⟨m0, m1, m2⟩ := hbx
  obtain ⟨i0, hi1, hz0, hz1, hz2⟩ := info_parts u64_info
  have hg1 : decide ((G : Int) < 1) = false := by simp; omega
  have hg2 : decide (p2 R.length ≤ (G : Int)) = false := by simp; omega
  have hg3 : R.length < 63 := by omega
  clear hr ok hm0 hck hE0 hrow
  go_enter Tryz.func196, Tryz.ntmps196
  go_wp2_with (go_at_call 75; refine HCK.out.mono ?_; rintro e w1 ⟨rfl, hE1⟩; rw [HC0.out]; obtain ⟨q0, q1, q2⟩ := HBX.out.ext hE1)
  have HE1 := Lib.hid hE1
  have hwb : w.heap.size < w1.heap.size := by have := hE1.size; simp at this; omega
  have HR1 : Hid (RR w1 ra R) := HRel.out.ext (HE0.out.trans hE1)
  clear m0 m1 m2
  go_loopw [7, 8] (fun v i wr => ∃ k : Nat, k ≤ N ∧ i = .int .i64 k ∧ GSE w1 (fun x => gRow (jOf false) (zOf false N) R G x R.length) k v wr) (fun _ i _ => N - (intOf i).toNat)
  case atStart => exact ⟨0, Nat.zero_le _, rfl, Ext.refl _, World.ownsRow_nil _ _ _ _⟩
  case round =>
    obtain ⟨k, hk, rfl, hgs⟩ := hrel
    have hgs : GS w1 _ k u7 wr := hgs
    have HGS := Lib.hid hgs
    obtain ⟨p0, p1, p2'⟩ := (HBX.out.ext hE1).ext hgs.e
    by_cases hlt : k < N
    · clear hgs
      go_wp2
      go_loop [9, 10] (fun r i => ∃ q : Nat, q ≤ R.length ∧ i = .int .i64 q ∧ r = .int .u64 (un (gRow (jOf false) (zOf false N) R G k q))) (fun _ i => R.length - (intOf i).toNat)
      case atStart => exact ⟨0, Nat.zero_le _, rfl, rfl⟩
      case round =>
        obtain ⟨q, hq, rfl, rfl⟩ := hrel
        by_cases hql : q < R.length
        · obtain ⟨b, off, a', c', rfl, hb, hc, hu⟩ := (HR1.out.ext HGS.out.e).get hql
          have hrq : (nth R q).length = N := HROW.out _ (by rw [nth_eq R q hql]; exact List.getElem_mem _)
          obtain ⟨b2, off2, rfl, hb2, hc2⟩ := hu.get (k := k) (by omega)
          rw [hrq] at hc
          cases hbit : G.testBit q
          · have HP := Lib.hid (gRow_no (j := jOf false) (z := zOf false N) (R := R) (w := k) hbit)
            have hbb := bit_of G q
            rw [hbit] at hbb
            clear hu
            go_wp2
            go_round
            case rel => exact ⟨q + 1, hql, by go_num, by rw [HP.out]⟩
            case measure => simp [intOf]; omega
          · have HP := Lib.hid (gRow_yes (j := jOf false) (z := zOf false N) (R := R) (w := k) hbit)
            have hbb := bit_of G q
            rw [hbit] at hbb
            clear hu
            go_wp2
            go_round
            case rel => exact ⟨q + 1, hql, by go_num, by rw [HP.out]; rfl⟩
            case measure => simp [intOf]; omega
        · obtain rfl : q = R.length := by omega
          have HO : Hid (∀ o, (wr.alloc o).ownsRow w1.heap.size 63 1 u7 k (((List.range k).map (fun x => gRow (jOf false) (zOf false N) R G x R.length)).map uv)) := fun o => (HGS.out.ext' ((Ext.refl wr).alloc o)).own
          have HPA : Hid (∀ o, GS w1 (fun x => gRow (jOf false) (zOf false N) R G x R.length) k u7 (wr.alloc o)) := fun o => HGS.out.ext' ((Ext.refl wr).alloc o)
          have HONE : Hid (∀ u ∈ [Value.int .u64 (un (gRow (jOf false) (zOf false N) R G k R.length))], u.oneCell' = true) := fun u hu => by
            rcases List.mem_singleton.1 hu with rfl
            rfl
          have hsz1 : w1.heap.size ≤ wr.heap.size := HGS.out.e.size
          go_wp2_with (at_builtin; refine wpList_append_lies _ rfl _ _ 25 rfl w1.heap.size 63 i0 _ 1 8 Tryz.underlying25 hi1 hz0 hz1 hz2 rfl (by decide) u7 k _ rfl (HO.out _) ⟨wr.heap.size, 0, none⟩ 1 1 [.int .u64 (un (gRow (jOf false) (zOf false N) R G k R.length))] rfl rfl (cell_one_new _ _ _) HONE.out (by decide) (by unfold maxLen; omega) (by omega) (Nat.le_trans hsz1 (by simp)) (wr.heap.size + 1) (by simp) ?_; intro gx cap W1 hown hgrow hat hlt2; have hpush := (HPA.out _).push hown hgrow; have HPU := Lib.hid hpush; clear hpush hown hgrow hat)
          go_roundw
          case rel => exact ⟨k + 1, hlt, by go_num, HPU.out⟩
          case measure => simp [intOf]; omega
    · obtain rfl : k = N := by omega
      obtain ⟨a, c, rfl, hu⟩ := hgs.done (by omega)
      have HU := Lib.hid hu
      clear hgs hu
      go_wp2
      go_ret
      have hl : (gRows false R G k).length = k := by simp [gRows]
      refine ⟨a, c, by rw [hl]; rfl, HU.out, (HE0.out.trans HE1.out).trans HGS.out.e⟩
set_option maxRecDepth 20000 in
set_option maxHeartbeats 4000000 in
theorem r13group_true (M : Mo) (va ra : Option Addr) (vc rc : Nat) (G N : Nat) (w : World) (hr : RM w va ra M) (ok : MoOk M N) (h1 : 1 ≤ G) (h2 : (G : Int) < p2 M.rel.length) :
    Calls Tryz.prog 196 #[.agg #[.int .i64 M.worlds, .slice va M.val.length vc, .slice ra M.rel.length rc], .int .i64 (G : Int), .bool true] w fun e w' => RetU (gRows true M.rel G N) e w w' := by
  obtain ⟨W, V, R⟩ := M
  have hW := ok.worlds
  have hrl := ok.rel
  have hvl := ok.val
  have hrow := ok.row
  have hNm := ok.most
  have hck := ok.check
  dsimp only at hW hrl hvl hrow h2 ⊢
  subst hW
  have hG : G < 16 := by
    unfold p2 at h2
    have : 2 ^ R.length ≤ 2 ^ 4 := Nat.pow_le_pow_right (by omega) hrl
    omega
  have hE0 : Ext w (w.alloc (.cells #[.int .i64 (N : Int), .slice va V.length vc, .slice ra R.length rc] 28)) := (Ext.refl w).alloc _
  have hm0 := hr.ext hE0
  have hbx := MoBox.new w (N : Int) V R va vc ra rc 28
  have HCK := Lib.hid (r13Check_any ⟨N, V, R⟩ va ra vc rc _ hm0)
  have HC0 := Lib.hid hck
  have HRel := Lib.hid hr.rel
  have HBX := Lib.hid hbx
  have HE0 := Lib.hid hE0
  have HROW := Lib.hid hrow
  obtain ⟨m0, m1, m2⟩ := hbx
  obtain ⟨i0, hi1, hz0, hz1, hz2⟩ := info_parts u64_info
  have hg1 : decide ((G : Int) < 1) = false := by simp; omega
  have hg2 : decide (p2 R.length ≤ (G : Int)) = false := by simp; omega
  have hg3 : R.length < 63 := by omega
  clear hr ok hm0 hck hE0 hrow
  go_enter Tryz.func196, Tryz.ntmps196
  go_wp2_with (go_at_call 75; refine HCK.out.mono ?_; rintro e w1 ⟨rfl, hE1⟩; rw [HC0.out]; obtain ⟨q0, q1, q2⟩ := HBX.out.ext hE1)
  have HE1 := Lib.hid hE1
  have hwb : w.heap.size < w1.heap.size := by have := hE1.size; simp at this; omega
  have HR1 : Hid (RR w1 ra R) := HRel.out.ext (HE0.out.trans hE1)
  clear m0 m1 m2
  go_loopw [7, 8] (fun v i wr => ∃ k : Nat, k ≤ N ∧ i = .int .i64 k ∧ GSE w1 (fun x => gRow (jOf true) (zOf true N) R G x R.length) k v wr) (fun _ i _ => N - (intOf i).toNat)
  case atStart => exact ⟨0, Nat.zero_le _, rfl, Ext.refl _, World.ownsRow_nil _ _ _ _⟩
  case round =>
    obtain ⟨k, hk, rfl, hgs⟩ := hrel
    have hgs : GS w1 _ k u7 wr := hgs
    have HGS := Lib.hid hgs
    obtain ⟨p0, p1, p2'⟩ := (HBX.out.ext hE1).ext hgs.e
    by_cases hlt : k < N
    · clear hgs
      go_wp2_with (go_at_call 114; refine (r13All_any N _).mono ?_; rintro _ _ ⟨rfl, rfl⟩)
      go_loop [9, 10] (fun r i => ∃ q : Nat, q ≤ R.length ∧ i = .int .i64 q ∧ r = .int .u64 (un (gRow (jOf true) (zOf true N) R G k q))) (fun _ i => R.length - (intOf i).toNat)
      case atStart => exact ⟨0, Nat.zero_le _, rfl, rfl⟩
      case round =>
        obtain ⟨q, hq, rfl, rfl⟩ := hrel
        by_cases hql : q < R.length
        · obtain ⟨b, off, a', c', rfl, hb, hc, hu⟩ := (HR1.out.ext HGS.out.e).get hql
          have hrq : (nth R q).length = N := HROW.out _ (by rw [nth_eq R q hql]; exact List.getElem_mem _)
          obtain ⟨b2, off2, rfl, hb2, hc2⟩ := hu.get (k := k) (by omega)
          rw [hrq] at hc
          cases hbit : G.testBit q
          · have HP := Lib.hid (gRow_no (j := jOf true) (z := zOf true N) (R := R) (w := k) hbit)
            have hbb := bit_of G q
            rw [hbit] at hbb
            clear hu
            go_wp2
            go_round
            case rel => exact ⟨q + 1, hql, by go_num, by rw [HP.out]⟩
            case measure => simp [intOf]; omega
          · have HP := Lib.hid (gRow_yes (j := jOf true) (z := zOf true N) (R := R) (w := k) hbit)
            have hbb := bit_of G q
            rw [hbit] at hbb
            clear hu
            go_wp2
            go_round
            case rel => exact ⟨q + 1, hql, by go_num, by rw [HP.out]; rfl⟩
            case measure => simp [intOf]; omega
        · obtain rfl : q = R.length := by omega
          have HO : Hid (∀ o, (wr.alloc o).ownsRow w1.heap.size 63 1 u7 k (((List.range k).map (fun x => gRow (jOf true) (zOf true N) R G x R.length)).map uv)) := fun o => (HGS.out.ext' ((Ext.refl wr).alloc o)).own
          have HPA : Hid (∀ o, GS w1 (fun x => gRow (jOf true) (zOf true N) R G x R.length) k u7 (wr.alloc o)) := fun o => HGS.out.ext' ((Ext.refl wr).alloc o)
          have HONE : Hid (∀ u ∈ [Value.int .u64 (un (gRow (jOf true) (zOf true N) R G k R.length))], u.oneCell' = true) := fun u hu => by
            rcases List.mem_singleton.1 hu with rfl
            rfl
          have hsz1 : w1.heap.size ≤ wr.heap.size := HGS.out.e.size
          go_wp2_with (at_builtin; refine wpList_append_lies _ rfl _ _ 25 rfl w1.heap.size 63 i0 _ 1 8 Tryz.underlying25 hi1 hz0 hz1 hz2 rfl (by decide) u7 k _ rfl (HO.out _) ⟨wr.heap.size, 0, none⟩ 1 1 [.int .u64 (un (gRow (jOf true) (zOf true N) R G k R.length))] rfl rfl (cell_one_new _ _ _) HONE.out (by decide) (by unfold maxLen; omega) (by omega) (Nat.le_trans hsz1 (by simp)) (wr.heap.size + 1) (by simp) ?_; intro gx cap W1 hown hgrow hat hlt2; have hpush := (HPA.out _).push hown hgrow; have HPU := Lib.hid hpush; clear hpush hown hgrow hat)
          go_roundw
          case rel => exact ⟨k + 1, hlt, by go_num, HPU.out⟩
          case measure => simp [intOf]; omega
    · obtain rfl : k = N := by omega
      obtain ⟨a, c, rfl, hu⟩ := hgs.done (by omega)
      have HU := Lib.hid hu
      clear hgs hu
      go_wp2
      go_ret
      have hl : (gRows true R G k).length = k := by simp [gRows]
      refine ⟨a, c, by rw [hl]; rfl, HU.out, (HE0.out.trans HE1.out).trans HGS.out.e⟩
theorem r13group_any (meet : Bool) (M : Mo) (va ra : Option Addr) (vc rc : Nat) (G N : Nat) (w : World) (hr : RM w va ra M) (ok : MoOk M N) (h1 : 1 ≤ G) (h2 : (G : Int) < p2 M.rel.length) :
    Calls Tryz.prog 196 #[.agg #[.int .i64 M.worlds, .slice va M.val.length vc, .slice ra M.rel.length rc], .int .i64 (G : Int), .bool meet] w fun e w' => RetU (gRows meet M.rel G N) e w w' := by
  cases meet
  · exact r13group_false M va ra vc rc G N w hr ok h1 h2
  · exact r13group_true M va ra vc rc G N w hr ok h1 h2
set_option maxHeartbeats 1000000 in
theorem r13Group_any (M : Mo) (va ra : Option Addr) (vc rc : Nat) (G N : Nat) (w : World) (hr : RM w va ra M) (ok : MoOk M N) (h1 : 1 ≤ G) (h2 : (G : Int) < p2 M.rel.length) :
    Calls Tryz.prog 184 #[.agg #[.int .i64 M.worlds, .slice va M.val.length vc, .slice ra M.rel.length rc], .int .i64 (G : Int)] w fun e w' => RetU (groupOf M G) e w w' := by
  have hE0 := (Ext.refl w).alloc (.cells #[.int .i64 M.worlds, .slice va M.val.length vc, .slice ra M.rel.length rc] 28)
  have H := Lib.hid (r13group_any false M va ra vc rc G N _ (hr.ext hE0) ok h1 h2)
  have HE := Lib.hid hE0
  have HG := Lib.hid (gather_rows false M G N ok h1 h2)
  obtain ⟨m0, m1, m2⟩ := MoBox.new w M.worlds M.val M.rel va vc ra rc 28
  clear hE0 hr ok h1 h2
  go_enter Tryz.func184, Tryz.ntmps184
  go_wp2_with (go_at_call 196; refine H.out.mono ?_; rintro e w1 ⟨a, c, rfl, hu, hE1⟩)
  go_ret
  have e : groupOf M G = gRows false M.rel G N := HG.out
  rw [e]
  exact ⟨a, c, rfl, hu, HE.out.trans hE1⟩
set_option maxHeartbeats 1000000 in
theorem r13Meet_any (M : Mo) (va ra : Option Addr) (vc rc : Nat) (G N : Nat) (w : World) (hr : RM w va ra M) (ok : MoOk M N) (h1 : 1 ≤ G) (h2 : (G : Int) < p2 M.rel.length) :
    Calls Tryz.prog 185 #[.agg #[.int .i64 M.worlds, .slice va M.val.length vc, .slice ra M.rel.length rc], .int .i64 (G : Int)] w fun e w' => RetU (meetOf M G) e w w' := by
  have hE0 := (Ext.refl w).alloc (.cells #[.int .i64 M.worlds, .slice va M.val.length vc, .slice ra M.rel.length rc] 28)
  have H := Lib.hid (r13group_any true M va ra vc rc G N _ (hr.ext hE0) ok h1 h2)
  have HE := Lib.hid hE0
  have HG := Lib.hid (gather_rows true M G N ok h1 h2)
  obtain ⟨m0, m1, m2⟩ := MoBox.new w M.worlds M.val M.rel va vc ra rc 28
  clear hE0 hr ok h1 h2
  go_enter Tryz.func185, Tryz.ntmps185
  go_wp2_with (go_at_call 196; refine H.out.mono ?_; rintro e w1 ⟨a, c, rfl, hu, hE1⟩)
  go_ret
  have e : meetOf M G = gRows true M.rel G N := HG.out
  rw [e]
  exact ⟨a, c, rfl, hu, HE.out.trans hE1⟩
end Wt

/- Walks: wittingref17.One (printed by gen_r17c.py). -/
namespace Wt
open Go Go.RowKit Go.Maps Go.Proofs Fm

theorem r17BoxL (a : Option Addr) (r : List (BitVec 64)) (c n m : Nat) (s : BitVec 64) (w : World) (hr : RU w a r) (hn : n ≤ r.length) (h64 : n ≤ 64) (hm : r.length = m) :
    Calls Tryz.prog 183 #[.slice a m c, .int .i64 (n : Int), .int .u64 (un s)] w fun e w' => e = .returned (.int .u64 (un (boxTo r s n))) ∧ w = w' := by
  subst hm; exact r17Box_any a r c n s w hr hn h64
def Ret1 (v : BitVec 64) (e : Ending) (w w' : World) : Prop := e = .returned (.int .u64 (un v)) ∧ Ext w w'
end Wt
