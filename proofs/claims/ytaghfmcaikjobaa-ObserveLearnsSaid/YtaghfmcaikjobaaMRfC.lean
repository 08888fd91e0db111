/- wittingref05.node: all patterns (printed by gen_rfb.py). -/
import Derived.Test.YtaghfmcaikjobaaMRfBa
import Derived.Test.YtaghfmcaikjobaaMRfBb
import Derived.Test.YtaghfmcaikjobaaMRfBc
import Derived.Test.YtaghfmcaikjobaaMRfF
import Derived.Deep.AppendLies
import Derived.Test.YtaghfmcaikjobaaMSemB
import Derived.Test.YtaghfmcaikjobaaMBld
import Derived.Deep.RegionHeld3
import Derived.Test.YtaghfmcaikjobaaMFmJ
import Derived.Test.YtaghfmcaikjobaaMTz
import Derived.Test.YtaghfmcaikjobaaMObP
import Derived.Test.YtaghfmcaikjobaaMArr
namespace Wt
open Go Go.RowKit Go.Maps Go.Proofs Fm

set_option maxHeartbeats 1000000 in
theorem r5node_any (n : Nd) (a : Int) (w : World) :
    Calls Try.prog 88 #[.agg #[.int .i64 n.op, .int .i64 n.i, .int .i64 n.e, .int .i64 n.g, .int .i64 n.x, .int .i64 n.y], .int .i64 a] w fun e w' => e = .returned (.int .i64 (nodeErr n a)) ∧ Ext w w' := by
  obtain ⟨op, i, ev, g, x, y⟩ := n
  dsimp only
  by_cases h : (useOf op).2 = true
  · have h0 : 1 ≤ op ∧ op ≤ 21 := by rw [r5ok_eq] at h; simpa using h
    obtain ⟨fr, h' | h' | h' | h' | h' | h' | h' | h' | h'⟩ := useOf_pat op h
    · exact r5node_0 op i ev g x y a fr w h0.1 h0.2 h'
    · exact r5node_1 op i ev g x y a fr w h0.1 h0.2 h'
    · exact r5node_2 op i ev g x y a fr w h0.1 h0.2 h'
    · exact r5node_3 op i ev g x y a fr w h0.1 h0.2 h'
    · exact r5node_4 op i ev g x y a fr w h0.1 h0.2 h'
    · exact r5node_5 op i ev g x y a fr w h0.1 h0.2 h'
    · exact r5node_6 op i ev g x y a fr w h0.1 h0.2 h'
    · exact r5node_7 op i ev g x y a fr w h0.1 h0.2 h'
    · exact r5node_8 op i ev g x y a fr w h0.1 h0.2 h'
  · exact r5node_low op i ev g x y a w (by rw [r5ok_eq] at h; simp at h; omega)
end Wt

/- Walks: wittingref05.Check. -/
namespace Wt
open Go Go.RowKit Go.Maps Go.Proofs Fm

set_option maxHeartbeats 1000000 in
theorem r5Check_any (fa : Option Addr) (fc : Nat) (l : List Nd) (w : World) (hr : RN w fa l) :
    Calls Try.prog 64 #[.slice fa l.length fc] w fun e w' => e = .returned (.int .i64 (fCheck l)) ∧ Ext w w' := by
  have hl := hr.len
  by_cases h1 : l.length = 0
  · have hn : fCheck l = 3 := by unfold fCheck; rw [if_pos h1]
    have HN := Lib.hid hn
    have H1 : ((l.length : Int) == 0) = true := by simp [h1]
    clear hn h1
    go_enter Try.func64, Try.ntmps64
    go_wp2
    go_ret
    exact ⟨by rw [HN.out]; rfl, Ext.refl w⟩
  · by_cases h2 : 200 < l.length
    · have hn : fCheck l = 8 := by unfold fCheck; rw [if_neg h1, if_pos h2]
      have HN := Lib.hid hn
      have H1 : ((l.length : Int) == 0) = false := by simp [h1]
      clear hn h1
      go_enter Try.func64, Try.ntmps64
      go_wp2
      go_ret
      exact ⟨by rw [HN.out]; rfl, Ext.refl w⟩
    · have hn : fCheck l = errFrom l l.length 0 := by unfold fCheck; rw [if_neg h1, if_neg h2]
      have HN := Lib.hid hn
      have H1 : ((l.length : Int) == 0) = false := by simp [h1]
      clear hn h1
      go_enter Try.func64, Try.ntmps64
      go_wp2
      go_loopw [3] (fun i wr => ∃ k : Nat, k ≤ l.length ∧ i = .int .i64 k ∧ Ext w wr ∧ Hid (∀ j, 0 ≤ j → j < k → nodeErr (nth l j) j = 0)) (fun i _ => l.length - (intOf i).toNat)
      case atStart => exact ⟨0, Nat.zero_le _, rfl, Ext.refl _, fun _ _ h => absurd h (Nat.not_lt_zero _)⟩
      case round =>
        obtain ⟨k, hk, rfl, hE, hno⟩ := hrel
        by_cases hlt : k < l.length
        · obtain ⟨b, off, rfl, hb, n0, n1, n2, n3, n4, n5⟩ := (hr.ext hE).get hlt
          by_cases hq : nodeErr (nth l k) k = 0
          · have HQ := Lib.hid hq
            clear hq
            go_wp2_with (go_at_call 88; refine (r5node_any (nth l k) _ _).mono ?_; rintro e w1 ⟨rfl, hE1⟩; rw [HQ.out])
            go_roundw
            case rel => exact ⟨k + 1, hlt, by go_num, hE.trans hE1, fun j h0 hj => by
              rcases Nat.lt_or_ge j k with h | h
              · exact hno j h0 h
              · obtain rfl : j = k := by omega
                exact HQ.out⟩
            case measure => simp [intOf]; omega
          · have HQ := Lib.hid hq
            have hq2 : (nodeErr (nth l k) k != 0) = true := by simp [hq]
            clear hq
            go_wp2_with (go_at_call 88; refine (r5node_any (nth l k) _ _).mono ?_; rintro e w1 ⟨rfl, hE1⟩)
            go_ret
            exact ⟨by rw [HN.out, errFrom_first l k _ 0 (Nat.zero_le _) (by omega) hno HQ.out]; rfl, hE.trans hE1⟩
        · go_wp2
          go_ret
          exact ⟨by rw [HN.out, errFrom_none l _ 0 (fun j h0 hj => hno j h0 (by omega))]; rfl, hE⟩

end Wt

/- Walks: wittingref05.Sub, Compact. -/
namespace Wt
open Go Go.RowKit Go.Maps Go.Proofs Fm

theorem int_infoG : (Try.prog.info? 3).map (fun i => (i.zero, i.size, i.bytes)) = some (some (.int .i64 0), 1, 8) := by kernel_rfl
/-- Ahead of the walk over the nodes: k of them are marked as not done. -/
structure PS (wb : Nat) (w1 : World) (k : Nat) (wr : World) (vd : Value) : Prop where
  e : Ext w1 wr
  hi : wb < wr.heap.size
  c0 : wr.cell? ⟨wb, 0, none⟩ = some (.slice none 0 0)
  c1 : wr.cell? ⟨wb, 1, none⟩ = some vd
  fz : ∀ o, wr.frozen? ⟨wb, o, none⟩ = false
  own : wr.ownsRow (wb + 1) 3 1 vd k (List.replicate k (.int .i64 (-1)))
def PSE (wb : Nat) (w1 : World) (k : Nat) (wr : World) : Prop := ∃ vd, PS wb w1 k wr vd
theorem PS.start (w1 : World) (T : Nat) : PS w1.heap.size w1 0 (w1.alloc (.cells #[.slice none 0 0, .slice none 0 0] T)) (.slice none 0 0) :=
  ⟨(Ext.refl w1).alloc _, by simp, by simp, by simp, fun o => by simp, World.ownsRow_nil _ _ _ _⟩
theorem PS.ext' {wb : Nat} {w1 : World} {k : Nat} {wr w' : World} {vd : Value} (h : PS wb w1 k wr vd) (e : Ext wr w') : PS wb w1 k w' vd := by
  refine ⟨h.e.trans e, by have := e.size; have := h.hi; omega, e.cell h.c0, e.cell h.c1, fun o => ?_, ?_⟩
  · rw [World.frozen?_of_block (w := wr) (e.block _ h.hi)]; exact h.fz o
  · exact h.own.kept (row := none) ⟨e.os, e.tape, e.output, e.size, fun k hk _ => e.block k hk⟩ (by cases vd.ownBlock <;> simp)
theorem PS.push {wb : Nat} {w1 : World} {k : Nat} {wr W1 : World} {vd v' : Value} (h : PS wb w1 k wr vd) (hwb : w1.heap.size ≤ wb) (ho : W1.ownsRow (wb + 1) 3 1 v' (k + 1) (List.replicate k (.int .i64 (-1)) ++ [.int .i64 (-1)]))
    (g1 : wr.grownBy W1 vd.ownBlock) : PS wb w1 (k + 1) (W1.setCell ⟨wb, 1, none⟩ v') v' := by
  have hz := h.hi
  have hvb := h.own.lt
  have hwv : some wb ≠ vd.ownBlock := fun e => by have := (hvb wb e.symm).1; omega
  have hlt := ho.lt
  have hwv' : v'.ownBlock ≠ some wb := fun e => by have := (hlt wb e).1; omega
  refine ⟨(ext_of_grown h.e g1 (fun k hk => by have := (hvb k hk).1; omega)).setCell (by simpa using hwb) _, by have := g1.size; simp [World.setCell]; omega, ?_, World.cell?_setCell_same _ _ _ (g1.cell h.c1 (by simpa using hwv)), fun o => ?_, ?_⟩
  · rw [World.cell?_setCell_other _ _ _ _ (by simp)]; exact g1.cell h.c0 (by simpa using hwv)
  · rw [World.frozen?_setCell, World.frozen?_of_block (g1.block wb hz hwv)]; exact h.fz o
  · rw [List.replicate_succ']
    exact ho.kept (row := some wb) ⟨rfl, rfl, rfl, by simp, fun j _ hj => heap_setCell_other W1 ⟨wb, 1, none⟩ j v' (fun e => hj (by simp [e]))⟩ (.inr hwv')
/-- All are marked: the walk may begin. -/
theorem PS.ready {wb : Nat} {w w1 : World} {wr : World} {vd : Value} {l : List Nd} (h : PS wb w1 l.length wr vd) (hw : Ext w w1) (hwb : w1.heap.size ≤ wb) (hl : 0 < l.length) : ∃ g c, vd = .slice (some ⟨g, 0, none⟩) l.length c ∧ RS w wb g c l wr [] (.slice none 0 0) (List.replicate l.length (-1)) := by
  rcases h.own.2 with ⟨_, h0⟩ | ⟨g, cap, cur, rfl, hb, hg, rest⟩
  · omega
  · refine ⟨g, cap, rfl, ⟨by have := hw.size; omega, h.hi, hw.trans h.e, h.c0, h.c1, h.fz, World.ownsRow_nil _ _ _ _, ⟨by simp, ?_⟩, by simp [Value.ownBlock], fun i hi => .inl ?_, List.nodup_nil, Cl.nil, (fun _ h => by simp at h), (fun _ h => by simp at h)⟩⟩
    · rw [List.map_replicate]; exact h.own
    · rw [nth_eq _ _ (by simpa using hi)]; simp
set_option maxRecDepth 20000 in
set_option maxHeartbeats 2000000 in
theorem r5Sub_any (fa : Option Addr) (fc : Nat) (l : List Nd) (i : Int) (w : World) (hr : RN w fa l) :
    Calls Try.prog 89 #[.slice fa l.length fc, .int .i64 i] w (RetN (fSub l i) · w ·) := by
  by_cases h1 : fCheck l = 0
  · by_cases h2 : i < 0
    · have hN : fSub l i = [] := if_neg (by omega)
      have HN := Lib.hid hN
      have HC := Lib.hid h1
      clear hN h1
      go_enter Try.func89, Try.ntmps89
      go_wp2_with (go_at_call 64; refine (r5Check_any fa fc l _ hr).mono ?_; rintro e w1 ⟨rfl, hE1⟩; rw [HC.out])
      go_ret
      rw [HN.out]
      exact ⟨none, 0, rfl, RN.nil _ _, by assumption⟩
    · obtain ⟨k, rfl⟩ := Int.eq_ofNat_of_zero_le (show 0 ≤ i by omega)
      by_cases h3 : k < l.length
      · obtain ⟨hl0, hl1, hw⟩ := fCheck_ok.1 h1
        have hN : fSub l k = canon (trAt l k) := if_pos ⟨h1, by omega, by omega⟩
        have HN := Lib.hid hN
        have HC := Lib.hid h1
        have HW := Lib.hid hw
        have HR := Lib.hid hr
        clear hN h1 hw hr
        obtain ⟨i0, hi1, hz0, hz1, hz2⟩ := info_parts int_infoG
        have hn1 : decide ((k : Int) < 0) = false := by simp
        have hn2 : decide (l.length ≤ k) = false := by simp; omega
        go_enter Try.func89, Try.ntmps89
        go_wp2_with (go_at_call 64; refine (r5Check_any fa fc l _ HR.out).mono ?_; rintro e w1 ⟨rfl, hE1⟩; rw [HC.out])
        go_loopw [6] (fun i wr => ∃ k : Nat, k ≤ l.length ∧ i = .int .i64 k ∧ PSE w1.heap.size w1 k wr) (fun i _ => l.length - (intOf i).toNat)
        case atStart => exact ⟨0, Nat.zero_le _, rfl, _, PS.start w1 _⟩
        case round =>
          obtain ⟨q, hq, rfl, vd, hp⟩ := hrel
          by_cases hlt : q < l.length
          · have c0 := hp.c0
            have c1 := hp.c1
            have hz := hp.hi
            have HP := Lib.hid hp
            have HO : Hid (∀ o, (wr.alloc o).ownsRow (w1.heap.size + 1) 3 1 vd q (List.replicate q (.int .i64 (-1)))) := fun o => (hp.ext' ((Ext.refl wr).alloc o)).own
            have HPA : Hid (∀ o, PS w1.heap.size w1 q (wr.alloc o) vd) := fun o => hp.ext' ((Ext.refl wr).alloc o)
            have hvb := hp.own.lt
            have HNV : Hid (some w1.heap.size ≠ vd.ownBlock) := fun e => by have := (hvb _ e.symm).1; omega
            have HFZ : Hid (∀ o W1, (wr.alloc o).grownBy W1 vd.ownBlock → W1.frozen? ⟨w1.heap.size, 1, none⟩ = false) := by
              intro o W1 hg
              have hlt : w1.heap.size < (wr.alloc o).heap.size := by have : (wr.alloc o).heap.size = wr.heap.size + 1 := by simp
                                                                     omega
              rw [World.frozen?_of_block (hg.block w1.heap.size hlt HNV.out)]
              exact (HPA.out o).fz 1
            have HONE : Hid (∀ u ∈ [Value.int .i64 (-1)], u.oneCell' = true) := fun u hu => by
              rcases List.mem_singleton.1 hu with rfl
              rfl
            have hsz1 : w1.heap.size + 1 ≤ wr.heap.size := hz
            clear hp hvb
            go_wp2_with (at_builtin; go_loud (refine wpList_append_lies _ rfl _ _ 30 rfl (w1.heap.size + 1) 3 i0 _ 1 8 Try.underlying30 hi1 hz0 hz1 hz2 rfl (by decide) vd q (List.replicate q (.int .i64 (-1))) rfl (HO.out _) ⟨wr.heap.size, 0, none⟩ 1 1 [.int .i64 (-1)] rfl rfl (cell_one_new _ _ _) HONE.out (by decide) (by unfold maxLen; omega) (by omega) (Nat.le_trans hsz1 (by simp)) (wr.heap.size + 1) (by simp) ?_; intro gx cap W1 hown hgrow hat hlt2; have y1 := hgrow.cell ((HPA.out _).c1) HNV.out; have fz1 := HFZ.out _ _ hgrow; have hpush := (HPA.out _).push (Nat.le_refl _) hown hgrow; have HPU := Lib.hid hpush; clear hpush hown hgrow hat))
            go_roundw
            case rel =>
              exact ⟨q + 1, hlt, by go_num, _, HPU.out⟩
            case measure => simp [intOf]; omega
          · obtain rfl : q = l.length := by omega
            obtain ⟨g, c, rfl, hrs⟩ := hp.ready (w := w) (by assumption) (Nat.le_refl _) hl0
            have HF := Lib.hid (r5finish_any (fc := fc) HR.out HW.out (by omega) (k + 1) k (by omega) h3 _ _ _ _ hrs)
            have c0 := hp.c0
            clear hrs hp
            go_wp2_with (go_at_call 109; refine HF.out.mono ?_; rintro e w2 ⟨v', D', rfl, hR2, hF2⟩; have c2 := hR2.co; have HR2 := Lib.hid hR2; clear hR2 hF2)
            go_ret
            obtain ⟨va, vc, rfl, hrn⟩ := HR2.out.slice (by omega)
            rw [HN.out]
            have hcl : (canon (trAt l k)).length = (addT (trAt l k) []).length := by simp [canon, encL]
            exact ⟨va, vc, by rw [hcl]; rfl, hrn, HR2.out.ext⟩
      · have hN : fSub l k = [] := if_neg (by omega)
        have HN := Lib.hid hN
        have HC := Lib.hid h1
        clear hN h1
        go_enter Try.func89, Try.ntmps89
        go_wp2_with (go_at_call 64; refine (r5Check_any fa fc l _ hr).mono ?_; rintro e w1 ⟨rfl, hE1⟩; rw [HC.out])
        go_ret
        rw [HN.out]
        exact ⟨none, 0, rfl, RN.nil _ _, by assumption⟩
  · have hN : fSub l i = [] := if_neg (fun h => h1 h.1)
    have HN := Lib.hid hN
    have hq : (fCheck l != 0) = true := by simp [h1]
    clear hN h1
    go_enter Try.func89, Try.ntmps89
    go_wp2_with (go_at_call 64; refine (r5Check_any fa fc l _ hr).mono ?_; rintro e w1 ⟨rfl, hE1⟩)
    go_ret
    rw [HN.out]
    exact ⟨none, 0, rfl, RN.nil _ _, by assumption⟩
set_option maxHeartbeats 1000000 in
theorem r5Compact_any (fa : Option Addr) (fc : Nat) (l : List Nd) (w : World) (hr : RN w fa l) :
    Calls Try.prog 65 #[.slice fa l.length fc] w fun e w' => RetN (fCompact l) e w w' := by
  have hl := hr.len
  go_enter Try.func65, Try.ntmps65
  go_wp2_with (go_at_call 89; refine (r5Sub_any _ _ l _ _ hr).mono ?_; rintro e w1 ⟨a, c, rfl, hc, hE⟩)
  go_ret
  exact ⟨_, _, rfl, hc, hE⟩
end Wt

/- Walks: wittingref13.group, Group, Meet. -/
namespace Wt
open Go Go.RowKit Go.Maps Go.Proofs Fm

/-- What a round keeps. -/
structure GS (w0 : World) (f : Nat → BitVec 64) (k : Nat) (v : Value) (wr : World) : Prop where
  e : Ext w0 wr
  own : wr.ownsRow w0.heap.size 49 1 v k (((List.range k).map f).map uv)
def GSE (w0 : World) (f : Nat → BitVec 64) (k : Nat) (v : Value) (wr : World) : Prop := GS w0 f k v wr
theorem GS.ext' {w0 : World} {f : Nat → BitVec 64} {k : Nat} {v : Value} {wr w' : World} (h : GS w0 f k v wr) (e : Ext wr w') : GS w0 f k v w' :=
  ⟨h.e.trans e, h.own.kept (row := none) ⟨e.os, e.tape, e.output, e.size, fun k hk _ => e.block k hk⟩ (by cases v.ownBlock <;> simp)⟩
theorem GS.push {w0 : World} {f : Nat → BitVec 64} {k : Nat} {v v' : Value} {wr W1 : World} (h : GS w0 f k v wr) (ho : W1.ownsRow w0.heap.size 49 1 v' (k + 1) (((List.range k).map f).map uv ++ [uv (f k)])) (g : wr.grownBy W1 v.ownBlock) : GS w0 f (k + 1) v' W1 := by
  refine ⟨ext_of_grown h.e g (fun b hb => (h.own.lt b hb).1), ?_⟩
  rw [List.range_succ, List.map_append, List.map_append]
  exact ho
theorem GS.done {w0 : World} {f : Nat → BitVec 64} {k : Nat} {v : Value} {wr : World} (h : GS w0 f k v wr) (hk : k ≤ 1000) : ∃ a c, v = .slice a k c ∧ RU wr a ((List.range k).map f) := by
  have ho : OU wr w0.heap.size v ((List.range k).map f) := by
    have := h.own
    unfold OU
    simpa using this
  obtain ⟨a, c, hv, hu⟩ := RU_of_OU ho (by simp; omega)
  exact ⟨a, c, by simpa using hv, hu⟩
end Wt

/- Walks: wittingref17.One (printed by gen_r17c.py). -/
namespace Wt
open Go Go.RowKit Go.Maps Go.Proofs Fm

def Ret1 (v : BitVec 64) (e : Ending) (w w' : World) : Prop := e = .returned (.int .u64 (un v)) ∧ Ext w w'
end Wt

/- Walks: wittingref05.Frag, Frags, Facts, Agents. -/
namespace Wt
open Go Go.RowKit Go.Maps Go.Proofs Fm

set_option maxHeartbeats 4000000 in
theorem r5Facts_any (fa : Option Addr) (fc : Nat) (l : List Nd) (w : World) (hr : RN w fa l) :
    Calls Try.prog 67 #[.slice fa l.length fc] w fun e w' => e = .returned (.int .i64 (fFacts l : Int)) ∧ Ext w w' := by
  have Hok := Lib.hid (fCompact_ok l).1
  have hlen := (fCompact_ok l).2
  have HR : Hid (fFacts l = unionL factN (fCompact l)) := rfl
  go_enter Try.func67, Try.ntmps67
  go_wp2_with (go_at_call 65; refine (r5Compact_any _ _ l _ hr).mono ?_; rintro e w1 ⟨a, c, rfl, hc, hE⟩; generalize fCompact l = L at Hok hlen hc HR ⊢)
  go_loopw [4, 5] (fun o i wr => ∃ k : Nat, k ≤ L.length ∧ i = .int .i64 k ∧ o = .int .i64 (unionL factN (L.take k) : Int) ∧ Ext w1 wr) (fun _ i _ => L.length - (intOf i).toNat)
  case atStart => exact ⟨0, Nat.zero_le _, rfl, rfl, Ext.refl _⟩
  case round =>
    obtain ⟨k, hk, rfl, rfl, hE1⟩ := hrel
    by_cases hlt : k < L.length
    · obtain ⟨b, off, rfl, hb, n0, n1, n2, n3, n4, n5⟩ := (hc.ext hE1).get hlt
      have hmem : nth L k ∈ L := by rw [nth_eq L k hlt]; exact List.getElem_mem hlt
      have hN := Hok.out _ hmem
      have hsn := unionL_snoc factN L k hlt
      have hu1 := unionL_lt factN factN_lt (L.take k)
      by_cases h3 : (nth L k).op = 3
      · have hfc : (useOf (nth L k).op).1.fact = true := by rw [r5f_eq, h3]; rfl
        obtain ⟨h0, h7⟩ := hN.fact hfc
        have hf : factN (nth L k) = 2 ^ (nth L k).i.toNat := by unfold factN; rw [hfc]; simp only [if_true]; congr 1; omega
        rw [hf] at hsn
        rw [h3] at n0
        clear hf hfc hN hmem
        generalize (nth L k).i = q at *
        obtain ⟨P, PI, hP, hPI⟩ : ∃ (P : Nat) (PI : Int), 2 ^ q.toNat = P ∧ PI = (P : Int) := ⟨_, _, rfl, rfl⟩
        have hPl : P < 4294967296 := by
          rw [← hP]
          have : (2 : Nat) ^ q.toNat ≤ 2 ^ 7 := Nat.pow_le_pow_right (by omega) (by omega)
          omega
        rw [hP] at hsn
        have hor := or_nat (unionL factN (L.take k)) P (by omega) hPl
        rw [← hPI] at hor
        obtain ⟨rfl, rfl, rfl⟩ | ⟨rfl, rfl, rfl⟩ | ⟨rfl, rfl, rfl⟩ | ⟨rfl, rfl, rfl⟩ | ⟨rfl, rfl, rfl⟩ | ⟨rfl, rfl, rfl⟩ | ⟨rfl, rfl, rfl⟩ | ⟨rfl, rfl, rfl⟩ :
            (q = 0 ∧ P = 1 ∧ PI = 1) ∨ (q = 1 ∧ P = 2 ∧ PI = 2) ∨ (q = 2 ∧ P = 4 ∧ PI = 4) ∨ (q = 3 ∧ P = 8 ∧ PI = 8) ∨ (q = 4 ∧ P = 16 ∧ PI = 16) ∨ (q = 5 ∧ P = 32 ∧ PI = 32) ∨ (q = 6 ∧ P = 64 ∧ PI = 64) ∨ (q = 7 ∧ P = 128 ∧ PI = 128) := by
          rcases (show q = 0 ∨ q = 1 ∨ q = 2 ∨ q = 3 ∨ q = 4 ∨ q = 5 ∨ q = 6 ∨ q = 7 by omega) with rfl | rfl | rfl | rfl | rfl | rfl | rfl | rfl <;> simp at hP <;> omega
        all_goals
          have HS := Lib.hid hsn
          clear hsn h0 h7 hP hPI hPl
          go_wp2
          go_roundw
          case rel => exact ⟨k + 1, hlt, by go_num, by rw [HS.out], hE1⟩
          case measure => simp [intOf]; omega
      · have hf : factN (nth L k) = 0 := by unfold factN; rw [r5f_eq]; simp [h3]
        rw [hf] at hsn
        have hq : ((nth L k).op == 3) = false := by simp [h3]
        have HS := Lib.hid hsn
        clear hsn hN hmem hf h3
        go_wp2
        go_roundw
        case rel => exact ⟨k + 1, hlt, by go_num, by rw [HS.out]; simp, hE1⟩
        case measure => simp [intOf]; omega
    · go_wp2
      go_ret
      refine ⟨?_, hE.trans hE1⟩
      rw [HR.out, List.take_of_length_le (by omega)]
      rfl
end Wt

/- Walks: wittingref05.Agents, Fits. -/
namespace Wt
open Go Go.RowKit Go.Maps Go.Proofs Fm

end Wt

/- Walk: wittingref09.Table. -/
namespace Wt
open Go Go.RowKit Go.Maps Go.Proofs Fm

theorem compact_compact {f : List Nd} (h : fCheck f = 0) : fCompact (fCompact f) = fCompact f := by
  have If := IsF.of h
  have e := If.compact
  rw [e]
  exact (IsF.mk' If.fk (by have h1 := If.sz; have h2 := (fCheck_ok.1 h).2.1; omega)).compact
theorem prop_and {o : Int} (h1 : 1 ≤ o) (h8 : o ≤ 8) : (decide (1 ≤ o) && decide (o ≤ 8)) = true := by simp [h1, h8]
theorem tabErr_op {f : List Nd} {n : Int} (h1 : fCheck f = 0) {k : Nat} (hk : k < (fCompact f).length) (h : (decide (1 ≤ (nth (fCompact f) k).op) && decide ((nth (fCompact f) k).op ≤ 8)) = false) : tabErr f n = 10 ∧ tabOf f n = 0#64 := by
  have h2 : fFrags f ≠ 0 := fun h2 => by
    obtain ⟨a, b⟩ := prop_ops h2 _ (nth_mem hk)
    rw [prop_and a b] at h; cases h
  have hn : tabErr f n = 10 := by unfold tabErr; rw [if_neg (by simp [h1]), if_pos h2]
  exact ⟨hn, by unfold tabOf; rw [if_neg (by rw [hn]; omega)]⟩
theorem frags_nth {f : List Nd} (h : ∀ k, k < (fCompact f).length → (decide (1 ≤ (nth (fCompact f) k).op) && decide ((nth (fCompact f) k).op ≤ 8)) = true) : fFrags f = 0 := frags_of_ops fun n hn => by
  obtain ⟨k, hk, rfl⟩ := mem_nth hn
  have := h k hk
  simp at this
  exact this.2
theorem tabErr_range {f : List Nd} {n : Int} (h1 : fCheck f = 0) (h2 : fFrags f = 0) (h : n < 0 ∨ 6 < n ∨ (0 ≤ n ∧ n ≤ 6 ∧ (sr (fFacts f) n.toNat != 0) = true)) : tabErr f n = 2 ∧ tabOf f n = 0#64 := by
  have hn : tabErr f n = 2 := by
    unfold tabErr
    rw [if_neg (by simp [h1]), if_neg (by simp [h2]), if_pos]
    rcases h with h | h | ⟨h0, h6, h⟩
    · exact .inl h
    · exact .inr (.inl h)
    · right; right
      rw [fits_prop h1 h2 (by omega)]
      unfold sr at h
      cases he : (fFacts f >>> n.toNat == 0)
      · rfl
      · rw [beq_iff_eq] at he; rw [he] at h; cases h
  exact ⟨hn, by unfold tabOf; rw [if_neg (by rw [hn]; omega)]⟩
theorem tabErr_fine {f : List Nd} {N : Nat} (h1 : fCheck f = 0) (h2 : fFrags f = 0) (h6 : N ≤ 6) (h : (sr (fFacts f) N != 0) = false) : tabErr f N = 0 := by
  unfold tabErr
  rw [if_neg (by simp [h1]), if_neg (by simp [h2]), if_neg]
  rw [Int.toNat_natCast, fits_prop h1 h2 h6]
  unfold sr at h
  have : fFacts f >>> N = 0 := by
    rcases Nat.eq_zero_or_pos (fFacts f >>> N) with h0 | h0
    · exact h0
    · have : (((fFacts f >>> N : Nat) : Int) != 0) = true := by rw [bne_iff_ne]; omega
      rw [this] at h; cases h
  rw [this]; simp; omega
theorem facts_compact {f : List Nd} (h : fCheck f = 0) : fFacts (fCompact f) = fFacts f := by
  unfold fFacts; rw [compact_compact h]
/-- The values of the first nodes. -/
def pvL (e : Nat → Bool) (c : List Nd) (k : Nat) : List Bool := (List.range k).map fun j => pv e (trAt c j)
theorem pvL_len (e : Nat → Bool) (c : List Nd) (k : Nat) : (pvL e c k).length = k := by simp [pvL]
theorem pvL_nth (e : Nat → Bool) (c : List Nd) {k j : Nat} (h : j < k) : nth (pvL e c k) j = pv e (trAt c j) := by unfold pvL; rw [nth_mapN _ _ (by simpa using h), nth_range h]
theorem pvL_step (e : Nat → Bool) (c : List Nd) (k : Nat) : pvL e c (k + 1) = pvL e c k ++ [pv e (trAt c k)] := by
  unfold pvL; rw [List.range_succ, List.map_append]; rfl
def PvE (w : World) (e : Nat → Bool) (c : List Nd) (k : Nat) (v : Value) (wr : World) : Prop := GL w 4 Value.bool (pvL e c k) v wr
set_option maxRecDepth 20000 in
set_option maxHeartbeats 8000000 in
theorem r09Table_any (fa : Option Addr) (fc : Nat) (f : List Nd) (n : Int) (w : World) (hf : RN w fa f) :
    Calls Try.prog 42 #[.slice fa f.length fc, .int .i64 n] w fun e w' => RetP (.int .u64 (un (tabOf f n))) (tabErr f n) e w w' := by
  obtain ⟨i0, hi1, hz0, hz1, hz2⟩ := info_parts bool_info
  have HC := Lib.hid (r5Check_any fa fc f w hf)
  by_cases h1 : fCheck f = 0
  rotate_left
  · have hn : tabErr f n = fCheck f := by unfold tabErr; rw [if_pos h1]
    have hn2 : tabOf f n = 0#64 := by unfold tabOf; rw [if_neg (by rw [hn]; exact h1)]
    have hq : (fCheck f != 0) = true := by simp [h1]
    have HN := Lib.hid hn
    have HN2 := Lib.hid hn2
    clear hn hn2 h1 hf
    go_enter Try.func42, Try.ntmps42
    go_wp2_with (go_at_call 64; refine (HC.out).mono ?_; rintro e w1 ⟨rfl, hE1⟩)
    go_ret2
    exact ⟨by rw [HN.out, HN2.out]; rfl, hE1⟩
  have H1 := Lib.hid h1
  have HOPB : Hid (∀ k, k < (fCompact f).length → (decide (1 ≤ (nth (fCompact f) k).op) && decide ((nth (fCompact f) k).op ≤ 8)) = false → tabErr f n = 10 ∧ tabOf f n = 0#64) := Lib.hid fun k hk h => tabErr_op h1 hk h
  have HFR : Hid ((∀ k, k < (fCompact f).length → (decide (1 ≤ (nth (fCompact f) k).op) && decide ((nth (fCompact f) k).op ≤ 8)) = true) → fFrags f = 0) := Lib.hid frags_nth
  have HOP8 : Hid (fFrags f = 0 → ∀ k, k < (fCompact f).length → 1 ≤ (nth (fCompact f) k).op ∧ (nth (fCompact f) k).op ≤ 8) := Lib.hid fun h k hk => prop_ops h _ (nth_mem hk)
  have HND : Hid (∀ k, k < (fCompact f).length → (nth (fCompact f) k).op = 3 → (nth (fCompact f) k).i < 64) := Lib.hid fun k hk h => by
    have := ((fCompact_ok f).1 _ (nth_mem hk)).fact (by rw [h]; rfl)
    omega
  obtain ⟨c1, c2, c3⟩ := compact_wfT h1
  have hcl := (fCompact_ok f).2
  have HW := Lib.hid c1
  have HRT := Lib.hid c2
  have HCO : Hid (∀ w, RN w fa f → Calls Try.prog 65 #[.slice fa f.length fc] w fun e w' => RetN (fCompact f) e w w') := Lib.hid fun w h => r5Compact_any fa fc f w h
  have HFC := Lib.hid (facts_compact h1)
  have hF8 : fFacts (fCompact f) < 9223372036854775808 := Nat.lt_of_lt_of_le (fFacts_lt _) (by decide)
  have HF := Lib.hid hf
  clear h1 hf c1 c2
  generalize fCompact f = c at *
  go_enter Try.func42, Try.ntmps42
  go_wp2_with (first | (go_at_call 64; refine (HC.out).mono ?_; rintro e w1 ⟨rfl, hE1⟩; rw [H1.out]) | (go_at_call 65; refine (HCO.out _ (HF.out.ext hE1)).mono ?_; rintro e w2 ⟨ca, cc, rfl, hrc, hE2⟩))
  have HEE := Lib.hid (hE1.trans hE2)
  have HRC := Lib.hid hrc
  clear hE1 hE2 hrc HC HCO
  go_loop [7] (fun i => ∃ k : Nat, k ≤ c.length ∧ i = .int .i64 (k : Int) ∧ Hid (∀ j, j < k → (decide (1 ≤ (nth c j).op) && decide ((nth c j).op ≤ 8)) = true)) (fun i => c.length - (intOf i).toNat)
  case atStart => exact ⟨0, Nat.zero_le _, rfl, Lib.hid fun j hj => absurd hj (Nat.not_lt_zero _)⟩
  case round =>
    obtain ⟨k, hk, rfl, hok⟩ := hrel
    by_cases hlt : k < c.length
    · obtain ⟨b, off, rfl, hb, n0, n1, n2, n3, n4, n5⟩ := HRC.out.get hlt
      cases hp : (decide (1 ≤ (nth c k).op) && decide ((nth c k).op ≤ 8))
      · obtain ⟨hn, hn2⟩ := HOPB.out k hlt hp
        have HN := Lib.hid hn
        have HN2 := Lib.hid hn2
        have HP := Lib.hid hp
        clear hn hn2 hp
        go_wp2_with (go_at_call 66; refine (r09Prop_any _ _).mono ?_; rintro _ _ ⟨rfl, rfl⟩; rw [HP.out])
        go_ret2
        exact ⟨by rw [HN.out, HN2.out]; rfl, HEE.out⟩
      · have HP := Lib.hid hp
        clear hp
        go_wp2_with (go_at_call 66; refine (r09Prop_any _ _).mono ?_; rintro _ _ ⟨rfl, rfl⟩; rw [HP.out])
        go_round
        case rel => exact ⟨k + 1, hlt, by go_num, lt_step hok HP.out⟩
        case measure => simp [intOf]; omega
    · obtain rfl : k = c.length := by omega
      have h2 := HFR.out hok.out
      have hop := HOP8.out h2
      have HOP := Lib.hid hop
      have H2 := Lib.hid h2
      clear hok h2 hop HOPB HFR HOP8
      by_cases h3 : n < 0
      · obtain ⟨hn, hn2⟩ := tabErr_range (n := n) H1.out H2.out (.inl h3)
        have hd : decide (n < 0) = true := decide_eq_true h3
        have HN := Lib.hid hn
        have HN2 := Lib.hid hn2
        cases h6 : decide (6 < n)
        all_goals
          clear hn hn2
          go_wp2
          go_ret2
          exact ⟨by rw [HN.out, HN2.out]; rfl, HEE.out⟩
      obtain ⟨N, rfl⟩ := Int.eq_ofNat_of_zero_le (show 0 ≤ n by omega)
      have hd : decide ((N : Int) < 0) = false := decide_eq_false h3
      by_cases h6 : 6 < N
      · obtain ⟨hn, hn2⟩ := tabErr_range (n := (N : Int)) H1.out H2.out (.inr (.inl (by omega)))
        have hd6 : decide ((6 : Int) < N) = true := decide_eq_true (by omega)
        have HN := Lib.hid hn
        have HN2 := Lib.hid hn2
        clear hn hn2 h6 h3
        go_wp2
        go_ret2
        exact ⟨by rw [HN.out, HN2.out]; rfl, HEE.out⟩
      have hd6 : decide ((6 : Int) < N) = false := decide_eq_false (by omega)
      have HFX : Hid (∀ w', Ext w2 w' → Calls Try.prog 67 #[.slice ca c.length cc] w' fun e w'' => e = .returned (.int .i64 (fFacts c : Int)) ∧ Ext w' w'') := Lib.hid fun w' h => r5Facts_any ca cc c w' (HRC.out.ext h)
      have HTR : Hid ((sr (fFacts c) N != 0) = true → tabErr f N = 2 ∧ tabOf f N = 0#64) := Lib.hid fun h => tabErr_range H1.out H2.out (.inr (.inr ⟨by omega, by omega, by rw [HFC.out] at h; simpa using h⟩))
      have HTF : Hid ((sr (fFacts c) N != 0) = false → tabErr f N = 0) := Lib.hid fun h => tabErr_fine H1.out H2.out (by omega) (by rw [HFC.out] at h; exact h)
      clear HFC
      generalize fFacts c = F at *
      cases hs : (sr F N != 0)
      rotate_left
      · obtain ⟨hn, hn2⟩ := HTR.out hs
        have hN6 : N ≤ 6 := by omega
        have HN := Lib.hid hn
        have HN2 := Lib.hid hn2
        clear hn hn2 h6 h3 HTR HTF
        go_wp2_with (go_at_call 67; refine (HFX.out _ (Ext.refl _)).mono ?_; rintro _ w3 ⟨rfl, hE3⟩)
        go_ret2
        exact ⟨by rw [HN.out, HN2.out]; rfl, HEE.out.trans hE3⟩
      · have hn := HTF.out hs
        have hn2 : tabOf f N = setTo (fun v => pv v.testBit (rt f)) (2 ^ N) := by rw [tab_eq hn]; simp
        have hN6 : N ≤ 6 := by omega
        have hN63 : N < 63 := by omega
        have hp := pow6 hN6
        have HN := Lib.hid hn
        have HN2 := Lib.hid hn2
        clear hn hn2 h6 h3 HTR HTF
        go_wp2_with (go_at_call 67; refine (HFX.out _ (Ext.refl _)).mono ?_; rintro _ w3 ⟨rfl, hE3⟩)
        have HE3 := Lib.hid hE3
        clear hE3 HFX
        go_loopw [8, 9] (fun s i wr => ∃ k : Nat, k ≤ 2 ^ N ∧ i = .int .i64 (k : Int) ∧ s = .int .u64 (un (setTo (fun v => pv v.testBit (rt f)) k)) ∧ Ext w3 wr) (fun _ i _ => 2 ^ N - (intOf i).toNat)
        case atStart => exact ⟨0, Nat.zero_le _, rfl, rfl, Ext.refl _⟩
        case round =>
          rename World => wr
          obtain ⟨k, hk, rfl, rfl, hE⟩ := hrel
          have hk64 : k ≤ 64 := by omega
          by_cases hlt : k < 2 ^ N
          · have hd1 : decide ((k : Int) < p2 N) = true := decide_eq_true (by unfold p2; omega)
            have HEr := Lib.hid (HE3.out.trans hE)
            have HEq := Lib.hid hE
            have HST : Hid (setTo (fun v => pv v.testBit (rt f)) (k + 1) = if pv k.testBit (rt f) then setTo (fun v => pv v.testBit (rt f)) k ||| 1#64 <<< k else setTo (fun v => pv v.testBit (rt f)) k) := Lib.hid rfl
            clear hE
            go_wp2_with fail
            go_loopw [10, 11] (fun v i wz => ∃ j : Nat, j ≤ c.length ∧ i = .int .i64 (j : Int) ∧ PvE wr k.testBit c j v wz) (fun _ i _ => c.length - (intOf i).toNat)
            case atStart => exact ⟨0, Nat.zero_le _, rfl, Ext.refl _, World.ownsRow_nil _ _ _ _⟩
            case round =>
              rename World => wz
              obtain ⟨j, hj, rfl, hGL⟩ := hrel
              have hGL : GL wr 4 Value.bool (pvL k.testBit c j) u10 wz := hGL
              have HGL := Lib.hid hGL
              by_cases hjl : j < c.length
              · obtain ⟨b, off, rfl, hb, n0, n1, n2, n3, n4, n5⟩ := (HRC.out.ext (HEr.out.trans hGL.e)).get hjl
                obtain ⟨X, hX, hXl, hXk⟩ := nd_x HW.out hjl
                obtain ⟨Y, hY, hYl, hYk⟩ := nd_y HW.out hjl
                obtain ⟨ho1, ho8⟩ := HOP.out j hjl
                obtain ⟨va, vc, hv, hrb⟩ := RB_of_own hGL.own (by rw [pvL_len]; omega)
                rw [pvL_len] at hv
                subst hv
                have hpv : pv k.testBit (trAt c j) = pvN k.testBit (nth c j).op (nth c j).i (nth (pvL k.testBit c j) X) (nth (pvL k.testBit c j) Y) := pv_node _ HW.out hjl ho8 _ _
                  (fun h => by rw [pvL_nth _ _ (hXk h), hX, Int.toNat_natCast]) (fun h => by rw [pvL_nth _ _ (hYk (.inl ⟨h, ho8⟩)), hY, Int.toNat_natCast])
                have HVAL : Hid (Calls Try.prog 68 #[.agg #[.int .i64 (nth c j).op, .int .i64 (nth c j).i, .int .i64 (nth c j).e, .int .i64 (nth c j).g, .int .i64 (nth c j).x, .int .i64 (nth c j).y], .slice va j vc, .int .i64 (k : Int)] wz fun e w' => e = .returned (.bool (pv k.testBit (trAt c j))) ∧ Ext wz w') := Lib.hid (by
                  have h := r09value_any (nth c j) k (pvL k.testBit c j) va vc wz hrb X Y hX hY (fun h => by rw [pvL_len]; exact hXk h) (fun h => by rw [pvL_len]; exact hYk (.inl ⟨h, ho8⟩)) ho1 ho8 (nd_i HW.out hjl) (HND.out j hjl) (by omega)
                  rw [← hpv, pvL_len] at h
                  exact h)
                have HSTP := Lib.hid (pvL_step k.testBit c j)
                have HPL : Hid ((pvL k.testBit c j).length = j) := Lib.hid (pvL_len _ _ _)
                have HPA : Hid (∀ W o, Ext wz W → GL wr 4 Value.bool (pvL k.testBit c j) (.slice va j vc) (W.alloc o)) := Lib.hid fun W o e => HGL.out.ext' (e.alloc o)
                have HO : Hid (∀ W o, Ext wz W → (W.alloc o).ownsRow wr.heap.size 4 1 (.slice va j vc) j ((pvL k.testBit c j).map Value.bool)) := Lib.hid fun W o e => by have := (HPA.out W o e).own; rw [HPL.out] at this; exact this
                have HONE : ∀ b : Bool, Hid (∀ u ∈ [Value.bool b], u.oneCell' = true) := fun b => Lib.hid fun u hu => by rw [List.mem_singleton.1 hu]; rfl
                have hszz : wr.heap.size ≤ wz.heap.size := hGL.e.size
                clear hGL hX hXk hY hYk hpv hrb ho1 ho8
                generalize pv k.testBit (trAt c j) = bv at *
                generalize (nth c j).op = p0 at *
                generalize (nth c j).i = p1 at *
                generalize (nth c j).e = p2 at *
                generalize (nth c j).g = p3 at *
                generalize (nth c j).x = p4 at *
                generalize (nth c j).y = p5 at *
                go_wp2_with (first | (go_at_call 68; refine HVAL.out.mono ?_; rintro _ w4 ⟨rfl, hE4⟩; have hsz4 : wr.heap.size ≤ w4.heap.size := Nat.le_trans hszz hE4.size) | (at_builtin; refine wpList_append_lies _ rfl _ _ 92 rfl wr.heap.size 4 i0 _ 1 1 Try.underlying92 hi1 hz0 hz1 hz2 rfl (by decide) (.slice va j vc) j _ rfl (HO.out _ _ hE4) ⟨w4.heap.size, 0, none⟩ 1 1 [.bool bv] rfl rfl (cell_one_new _ _ _) (HONE bv).out (by decide) (by unfold maxLen; omega) (by omega) (Nat.le_trans hsz4 (by simp)) (w4.heap.size + 1) (by simp) ?_; intro gx cap W1 hown hgrow hat hlt2; have hpush := (HPA.out _ _ hE4).push (x := bv) (by rw [HPL.out]; exact hown) hgrow; have HPU := Lib.hid hpush; clear hpush hown hgrow hat))
                go_roundw
                case rel => exact ⟨j + 1, hjl, by go_num, by show GL _ _ _ _ _ _; rw [HSTP.out]; exact HPU.out⟩
                case measure => simp [intOf]; omega
              · obtain rfl : j = c.length := by omega
                have hfull : pvL k.testBit c c.length = (List.range c.length).map fun j => pv k.testBit (trAt c j) := rfl
                obtain ⟨va, vc, hv, hrb⟩ := RB_of_own hGL.own (by rw [pvL_len]; omega)
                rw [pvL_len] at hv
                subst hv
                obtain ⟨bl, ol, rfl, hbl, hcl2⟩ := hrb.get (k := c.length - 1) (by rw [pvL_len]; omega)
                rw [pvL_nth _ _ (by omega), show trAt c (c.length - 1) = rt c from rfl, HRT.out] at hcl2
                have e1 : (c.length : Int) - 1 = ((c.length - 1 : Nat) : Int) := by omega
                have hlm : c.length - 1 < c.length := by omega
                cases hb : pv k.testBit (rt f)
                · have hs : setTo (fun v => pv v.testBit (rt f)) (k + 1) = setTo (fun v => pv v.testBit (rt f)) k := by rw [HST.out, hb]; simp
                  have HS := Lib.hid hs
                  rw [hb] at hcl2
                  clear hs HST hb hGL hfull hrb
                  go_wp2
                  go_roundw
                  case rel => exact ⟨k + 1, hlt, by go_num, by rw [HS.out], HEq.out.trans HGL.out.e⟩
                  case measure => simp [intOf]; omega
                · have hs : setTo (fun v => pv v.testBit (rt f)) (k + 1) = setTo (fun v => pv v.testBit (rt f)) k ||| 1#64 <<< k := by rw [HST.out, hb]; simp
                  have HS := Lib.hid hs
                  rw [hb] at hcl2
                  clear hs HST hb hGL hfull hrb
                  go_wp2
                  go_roundw
                  case rel => exact ⟨k + 1, hlt, by go_num, by rw [HS.out], HEq.out.trans HGL.out.e⟩
                  case measure => simp [intOf]; omega
          · have hd1 : decide ((k : Int) < p2 N) = false := decide_eq_false (by unfold p2; omega)
            have hkk : 2 ^ N = k := by omega
            rw [hkk] at HN2
            clear hkk hp
            go_wp2
            go_ret2
            exact ⟨by rw [HN.out, HN2.out]; rfl, HEE.out.trans (HE3.out.trans hE)⟩
end Wt

/- Walks: wittingref13.Take, Restrict (printed by gen_take.py). -/
namespace Wt
open Go Go.RowKit Go.Maps Go.Proofs Fm

end Wt
