/- Walks: wittingref05.Sub, Compact. -/
import Derived.Test.YtdnpgadkklgjeaaRfF
import Derived.Test.YtdnpgadkklgjeaaRfC
import Derived.Deep.AppendLies
namespace Wt
open Go Go.RowKit Go.Maps Go.Proofs Fm

theorem int_info : (Try.prog.info? 3).map (fun i => (i.zero, i.size, i.bytes)) = some (some (.int .i64 0), 1, 8) := by kernel_rfl
/-- Ahead of the walk over the nodes: k of them are marked as not done. -/
structure PS (wb : Nat) (w1 : World) (k : Nat) (wr : World) (vd : Value) : Prop where
  e : Ext w1 wr
  hi : wb < wr.heap.size
  c0 : wr.cell? ⟨wb, 0, none⟩ = some (.slice none 0 0)
  c1 : wr.cell? ⟨wb, 1, none⟩ = some vd
  fz : ∀ o, wr.frozen? ⟨wb, o, none⟩ = false
  own : wr.ownsRow (wb + 1) 3 1 vd k (List.replicate k (.int .i64 (-1)))
def PSE (wb : Nat) (w1 : World) (k : Nat) (wr : World) : Prop := ∃ vd, PS wb w1 k wr vd
theorem PS.start (w1 : World) (T : Nat) : PS w1.heap.size w1 0 (w1.alloc (.cells #[.slice none 0 0, .slice none 0 0] T)) (.slice none 0 0) :=
  ⟨(Ext.refl w1).alloc _, by simp, by simp, by simp, fun o => by simp, World.ownsRow_nil _ _ _ _⟩
theorem PS.ext' {wb : Nat} {w1 : World} {k : Nat} {wr w' : World} {vd : Value} (h : PS wb w1 k wr vd) (e : Ext wr w') : PS wb w1 k w' vd := by
  refine ⟨h.e.trans e, by have := e.size; have := h.hi; omega, e.cell h.c0, e.cell h.c1, fun o => ?_, ?_⟩
  · rw [World.frozen?_of_block (w := wr) (e.block _ h.hi)]; exact h.fz o
  · exact h.own.kept (row := none) ⟨e.os, e.tape, e.output, e.size, fun k hk _ => e.block k hk⟩ (by cases vd.ownBlock <;> simp)
theorem PS.push {wb : Nat} {w1 : World} {k : Nat} {wr W1 : World} {vd v' : Value} (h : PS wb w1 k wr vd) (hwb : w1.heap.size ≤ wb) (ho : W1.ownsRow (wb + 1) 3 1 v' (k + 1) (List.replicate k (.int .i64 (-1)) ++ [.int .i64 (-1)]))
    (g1 : wr.grownBy W1 vd.ownBlock) : PS wb w1 (k + 1) (W1.setCell ⟨wb, 1, none⟩ v') v' := by
  have hz := h.hi
  have hvb := h.own.lt
  have hwv : some wb ≠ vd.ownBlock := fun e => by have := (hvb wb e.symm).1; omega
  have hlt := ho.lt
  have hwv' : v'.ownBlock ≠ some wb := fun e => by have := (hlt wb e).1; omega
  refine ⟨(ext_of_grown h.e g1 (fun k hk => by have := (hvb k hk).1; omega)).setCell (by simpa using hwb) _, by have := g1.size; simp [World.setCell]; omega, ?_, World.cell?_setCell_same _ _ _ (g1.cell h.c1 (by simpa using hwv)), fun o => ?_, ?_⟩
  · rw [World.cell?_setCell_other _ _ _ _ (by simp)]; exact g1.cell h.c0 (by simpa using hwv)
  · rw [World.frozen?_setCell, World.frozen?_of_block (g1.block wb hz hwv)]; exact h.fz o
  · rw [List.replicate_succ']
    exact ho.kept (row := some wb) ⟨rfl, rfl, rfl, by simp, fun j _ hj => heap_setCell_other W1 ⟨wb, 1, none⟩ j v' (fun e => hj (by simp [e]))⟩ (.inr hwv')
/-- All are marked: the walk may begin. -/
theorem PS.ready {wb : Nat} {w w1 : World} {wr : World} {vd : Value} {l : List Nd} (h : PS wb w1 l.length wr vd) (hw : Ext w w1) (hwb : w1.heap.size ≤ wb) (hl : 0 < l.length) : ∃ g c, vd = .slice (some ⟨g, 0, none⟩) l.length c ∧ RS w wb g c l wr [] (.slice none 0 0) (List.replicate l.length (-1)) := by
  rcases h.own.2 with ⟨_, h0⟩ | ⟨g, cap, cur, rfl, hb, hg, rest⟩
  · omega
  · refine ⟨g, cap, rfl, ⟨by have := hw.size; omega, h.hi, hw.trans h.e, h.c0, h.c1, h.fz, World.ownsRow_nil _ _ _ _, ⟨by simp, ?_⟩, by simp [Value.ownBlock], fun i hi => .inl ?_, List.nodup_nil, Cl.nil, (fun _ h => by simp at h), (fun _ h => by simp at h)⟩⟩
    · rw [List.map_replicate]; exact h.own
    · rw [nth_eq _ _ (by simpa using hi)]; simp
set_option maxRecDepth 20000 in
set_option maxHeartbeats 2000000 in
theorem r5Sub_any (fa : Option Addr) (fc : Nat) (l : List Nd) (i : Int) (w : World) (hr : RN w fa l) :
    Calls Try.prog 51 #[.slice fa l.length fc, .int .i64 i] w (RetN (fSub l i) · w ·) := by
  by_cases h1 : fCheck l = 0
  · by_cases h2 : i < 0
    · have hN : fSub l i = [] := if_neg (by omega)
      have HN := Lib.hid hN
      have HC := Lib.hid h1
      clear hN h1
      go_enter Try.func51, Try.ntmps51
      go_wp2_with (go_at_call 52; refine (r5Check_any fa fc l _ hr).mono ?_; rintro e w1 ⟨rfl, hE1⟩; rw [HC.out])
      go_ret
      rw [HN.out]
      exact ⟨none, 0, rfl, RN.nil _ _, by assumption⟩
    · obtain ⟨k, rfl⟩ := Int.eq_ofNat_of_zero_le (show 0 ≤ i by omega)
      by_cases h3 : k < l.length
      · obtain ⟨hl0, hl1, hw⟩ := fCheck_ok.1 h1
        have hN : fSub l k = canon (trAt l k) := if_pos ⟨h1, by omega, by omega⟩
        have HN := Lib.hid hN
        have HC := Lib.hid h1
        have HW := Lib.hid hw
        have HR := Lib.hid hr
        clear hN h1 hw hr
        obtain ⟨i0, hi1, hz0, hz1, hz2⟩ := info_parts int_info
        have hn1 : decide ((k : Int) < 0) = false := by simp
        have hn2 : decide (l.length ≤ k) = false := by simp; omega
        go_enter Try.func51, Try.ntmps51
        go_wp2_with (go_at_call 52; refine (r5Check_any fa fc l _ HR.out).mono ?_; rintro e w1 ⟨rfl, hE1⟩; rw [HC.out])
        go_loopw [6] (fun i wr => ∃ k : Nat, k ≤ l.length ∧ i = .int .i64 k ∧ PSE w1.heap.size w1 k wr) (fun i _ => l.length - (intOf i).toNat)
        case atStart => exact ⟨0, Nat.zero_le _, rfl, _, PS.start w1 _⟩
        case round =>
          obtain ⟨q, hq, rfl, vd, hp⟩ := hrel
          by_cases hlt : q < l.length
          · have c0 := hp.c0
            have c1 := hp.c1
            have hz := hp.hi
            have HP := Lib.hid hp
            have HO : Hid (∀ o, (wr.alloc o).ownsRow (w1.heap.size + 1) 3 1 vd q (List.replicate q (.int .i64 (-1)))) := fun o => (hp.ext' ((Ext.refl wr).alloc o)).own
            have HPA : Hid (∀ o, PS w1.heap.size w1 q (wr.alloc o) vd) := fun o => hp.ext' ((Ext.refl wr).alloc o)
            have hvb := hp.own.lt
            have HNV : Hid (some w1.heap.size ≠ vd.ownBlock) := fun e => by have := (hvb _ e.symm).1; omega
            have HFZ : Hid (∀ o W1, (wr.alloc o).grownBy W1 vd.ownBlock → W1.frozen? ⟨w1.heap.size, 1, none⟩ = false) := by
              intro o W1 hg
              have hlt : w1.heap.size < (wr.alloc o).heap.size := by have : (wr.alloc o).heap.size = wr.heap.size + 1 := by simp
                                                                     omega
              rw [World.frozen?_of_block (hg.block w1.heap.size hlt HNV.out)]
              exact (HPA.out o).fz 1
            have HONE : Hid (∀ u ∈ [Value.int .i64 (-1)], u.oneCell' = true) := fun u hu => by
              rcases List.mem_singleton.1 hu with rfl
              rfl
            have hsz1 : w1.heap.size + 1 ≤ wr.heap.size := hz
            clear hp hvb
            go_wp2_with (at_builtin; go_loud (refine wpList_append_lies _ rfl _ _ 83 rfl (w1.heap.size + 1) 3 i0 _ 1 8 Try.underlying83 hi1 hz0 hz1 hz2 rfl (by decide) vd q (List.replicate q (.int .i64 (-1))) rfl (HO.out _) ⟨wr.heap.size, 0, none⟩ 1 1 [.int .i64 (-1)] rfl rfl (cell_one_new _ _ _) HONE.out (by decide) (by unfold maxLen; omega) (by omega) (Nat.le_trans hsz1 (by simp)) (wr.heap.size + 1) (by simp) ?_; intro gx cap W1 hown hgrow hat hlt2; have y1 := hgrow.cell ((HPA.out _).c1) HNV.out; have fz1 := HFZ.out _ _ hgrow; have hpush := (HPA.out _).push (Nat.le_refl _) hown hgrow; have HPU := Lib.hid hpush; clear hpush hown hgrow hat))
            go_roundw
            case rel =>
              exact ⟨q + 1, hlt, by go_num, _, HPU.out⟩
            case measure => simp [intOf]; omega
          · obtain rfl : q = l.length := by omega
            obtain ⟨g, c, rfl, hrs⟩ := hp.ready (w := w) (by assumption) (Nat.le_refl _) hl0
            have HF := Lib.hid (r5finish_any (fc := fc) HR.out HW.out (by omega) (k + 1) k (by omega) h3 _ _ _ _ hrs)
            have c0 := hp.c0
            clear hrs hp
            go_wp2_with (go_at_call 73; refine HF.out.mono ?_; rintro e w2 ⟨v', D', rfl, hR2, hF2⟩; have c2 := hR2.co; have HR2 := Lib.hid hR2; clear hR2 hF2)
            go_ret
            obtain ⟨va, vc, rfl, hrn⟩ := HR2.out.slice (by omega)
            rw [HN.out]
            have hcl : (canon (trAt l k)).length = (addT (trAt l k) []).length := by simp [canon, encL]
            exact ⟨va, vc, by rw [hcl]; rfl, hrn, HR2.out.ext⟩
      · have hN : fSub l k = [] := if_neg (by omega)
        have HN := Lib.hid hN
        have HC := Lib.hid h1
        clear hN h1
        go_enter Try.func51, Try.ntmps51
        go_wp2_with (go_at_call 52; refine (r5Check_any fa fc l _ hr).mono ?_; rintro e w1 ⟨rfl, hE1⟩; rw [HC.out])
        go_ret
        rw [HN.out]
        exact ⟨none, 0, rfl, RN.nil _ _, by assumption⟩
  · have hN : fSub l i = [] := if_neg (fun h => h1 h.1)
    have HN := Lib.hid hN
    have hq : (fCheck l != 0) = true := by simp [h1]
    clear hN h1
    go_enter Try.func51, Try.ntmps51
    go_wp2_with (go_at_call 52; refine (r5Check_any fa fc l _ hr).mono ?_; rintro e w1 ⟨rfl, hE1⟩)
    go_ret
    rw [HN.out]
    exact ⟨none, 0, rfl, RN.nil _ _, by assumption⟩
set_option maxHeartbeats 1000000 in
theorem r5Compact_any (fa : Option Addr) (fc : Nat) (l : List Nd) (w : World) (hr : RN w fa l) :
    Calls Try.prog 40 #[.slice fa l.length fc] w fun e w' => RetN (fCompact l) e w w' := by
  have hl := hr.len
  go_enter Try.func40, Try.ntmps40
  go_wp2_with (go_at_call 51; refine (r5Sub_any _ _ l _ _ hr).mono ?_; rintro e w1 ⟨a, c, rfl, hc, hE⟩)
  go_ret
  exact ⟨_, _, rfl, hc, hE⟩
end Wt
