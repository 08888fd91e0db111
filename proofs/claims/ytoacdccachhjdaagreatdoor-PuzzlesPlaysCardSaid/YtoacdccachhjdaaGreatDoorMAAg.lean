/- Walk: formula.compact. -/
import Derived.Test.YtoacdccachhjdaaGreatDoorMAAf
import Derived.Laws.EntriesVeiled
namespace Wt
open Go Go.RowKit Go.Maps Go.Proofs Fm

theorem finish_any {w : World} {fa : Option Addr} {fc : Nat} {l : List Nd} (hr : RN w fa l) (hw : Wf l) (hl : l.length ≤ 1000) : ∀ n i, i < n → i < l.length → Fin w fa fc l i
  | 0, _, h, _ => absurd h (Nat.not_lt_zero _)
  | n + 1, i, hn, hi => by
    intro W L v D hc
    cases hD : D (i : Int) with
    | some m =>
      obtain ⟨_, _, h3, h4⟩ := hc.dD _ _ hD
      refine (finish_done hc i hi m hD hl).mono ?_
      rintro e W' ⟨rfl, rfl⟩
      simp only [Int.toNat_natCast] at h3 h4
      unfold FinPost
      rw [addT_of_mem _ hc.cl h3]
      exact ⟨v, D, by rw [h4], hc, Fr.refl _ _ _, fun _ _ => rfl⟩
    | none =>
      obtain ⟨ho, _⟩ := nodeErr_ok (hw i hi)
      rcases hu : useOf (nth l i).op with ⟨⟨x, y, f, a, g, e, fr⟩, ok⟩
      rw [hu] at ho
      subst ho
      cases hx : x
      · have hy : y = false := by
          cases hy : y
          · rfl
          · have := useOf_yx (nth l i).op (by rw [hu]; exact hy)
            rw [hu] at this
            rw [hx] at this; cases this
        subst hx; subst hy
        exact finish_leaf hr hw hc i hi hD hl fr f a g e hu
      · subst hx
        have hxl := (hw.x_lt hi (by rw [hu])).2
        cases hy : y
        · subst hy
          exact finish_un hr hw hc i hi hD hl fr f a g e hu (finish_any hr hw hl n _ (by omega) (by omega))
        · subst hy
          have hyl := (hw.y_lt hi (by rw [hu])).2
          exact finish_bin hr hw hc i hi hD hl fr f a g e hu (finish_any hr hw hl n _ (by omega) (by omega)) (finish_any hr hw hl n _ (by omega) (by omega))

theorem CS.start (w : World) (fa : Option Addr) (fc : Nat) (l : List Nd) (T1 T2 T3 T4 T5 : Nat) :
    CS w fa fc l (((((((w.alloc (.cells #[.slice fa l.length fc] T1)).alloc (.cells #[.slice none 0 0] T2)).alloc (.map #[] 0)).alloc (.cells #[.map (some (w.heap.size + 2))] T3)).alloc (.map #[] 0)).alloc (.cells #[.map (some (w.heap.size + 4))] T4)).alloc
      (.cells #[.func (.func 162) #[] #[.pointer (some ⟨w.heap.size + 5, 0, none⟩), .pointer (some ⟨w.heap.size, 0, none⟩), .pointer (some ⟨w.heap.size + 6, 0, none⟩), .pointer (some ⟨w.heap.size + 3, 0, none⟩), .pointer (some ⟨w.heap.size + 1, 0, none⟩)]] T5))
      [] (.slice none 0 0) (fun _ => none) := by
  generalize hw1 : (w.alloc (.cells #[.slice fa l.length fc] T1)).alloc (.cells #[.slice none 0 0] T2) = w1
  have h1 : w1.heap.size = w.heap.size + 2 := by rw [← hw1]; simp
  generalize hw2 : (w1.alloc (.map #[] 0)).alloc (.cells #[.map (some (w.heap.size + 2))] T3) = w2
  have h2 : w2.heap.size = w.heap.size + 4 := by rw [← hw2]; simp; omega
  have m1 : MapOn ndGood Nd.val (w1.alloc (.map #[] 0)) (w.heap.size + 2) (fun _ => none) := by rw [← h1]; exact MapOn.made w1
  have m2 : MapOn igood (.int .i64) (w2.alloc (.map #[] 0)) (w.heap.size + 4) (fun _ => none) := by rw [← h2]; exact MapOn.made w2
  have e0 : Ext w w1 := by rw [← hw1]; exact ((Ext.refl w).alloc _).alloc _
  have e1 : Ext (w1.alloc (.map #[] 0)) w2 := by rw [← hw2]; exact (Ext.refl _).alloc _
  have e2 : Ext w1 w2 := ((Ext.refl w1).alloc _).trans e1
  generalize hw3 : ((w2.alloc (.map #[] 0)).alloc (.cells #[.map (some (w.heap.size + 4))] T4)) = w3
  have h3 : w3.heap.size = w.heap.size + 6 := by rw [← hw3]; simp; omega
  have e3 : Ext (w2.alloc (.map #[] 0)) w3 := by rw [← hw3]; exact (Ext.refl _).alloc _
  have e4 : Ext w2 w3 := ((Ext.refl w2).alloc _).trans e3
  have c0 : w1.cell? ⟨w.heap.size, 0, none⟩ = some (.slice fa l.length fc) := by rw [← hw1]; simp
  have c1 : w1.cell? ⟨w.heap.size + 1, 0, none⟩ = some (.slice none 0 0) := by
    rw [← hw1]
    have : (w.alloc (.cells #[.slice fa l.length fc] T1)).heap.size = w.heap.size + 1 := by simp
    rw [← this]; simp
  have f1 : w1.frozen? ⟨w.heap.size + 1, 0, none⟩ = false := by
    rw [← hw1]
    have : (w.alloc (.cells #[.slice fa l.length fc] T1)).heap.size = w.heap.size + 1 := by simp
    rw [← this]; simp
  have c3 : w2.cell? ⟨w.heap.size + 3, 0, none⟩ = some (.map (some (w.heap.size + 2))) := by
    rw [← hw2]
    have : (w1.alloc (.map #[] 0)).heap.size = w.heap.size + 3 := by simp; omega
    rw [← this]; simp
  have c5 : w3.cell? ⟨w.heap.size + 5, 0, none⟩ = some (.map (some (w.heap.size + 4))) := by
    rw [← hw3]
    have : (w2.alloc (.map #[] 0)).heap.size = w.heap.size + 5 := by simp; omega
    rw [← this]; simp
  generalize hv : Value.func (.func 162) #[] #[.pointer (some ⟨w.heap.size + 5, 0, none⟩), .pointer (some ⟨w.heap.size, 0, none⟩), .pointer (some ⟨w.heap.size + 6, 0, none⟩), .pointer (some ⟨w.heap.size + 3, 0, none⟩), .pointer (some ⟨w.heap.size + 1, 0, none⟩)] = fv
  have e5 : Ext w3 (w3.alloc (.cells #[fv] T5)) := (Ext.refl _).alloc _
  have c6 : (w3.alloc (.cells #[fv] T5)).cell? ⟨w.heap.size + 6, 0, none⟩ = some fv := by rw [← h3]; simp
  have efun : (fun n : Nd => if n ∈ encL [] then some ((encL []).idxOf n : Int) else none) = (fun _ => none) := by funext n; simp [encL]
  refine ⟨by simp; omega, ((e0.trans e2).trans e4).trans e5, e5.cell (e4.cell (e2.cell c0)), e5.cell (e4.cell (e2.cell c1)), ?_, e5.cell (e4.cell c3), e5.cell c5, ?_, World.ownsRow_nil _ _ _ _, ?_, ?_, (fun _ _ h => by cases h), List.nodup_nil, Cl.nil, (fun _ h => by simp at h), (fun _ h => by simp at h)⟩
  · rw [World.frozen?_of_block (w := w1) (((e2.trans e4).trans e5).block _ (by simp; omega))]; exact f1
  · rw [hv]; exact c6
  · rw [efun]; exact m1.kept (((e1.trans e4).trans e5).block _ (by simp; omega))
  · exact m2.kept ((e3.trans e5).block _ (by simp; omega))
set_option maxRecDepth 20000 in
set_option maxHeartbeats 2000000 in
theorem compact_any (fa : Option Addr) (fc : Nat) (l : List Nd) (root : Nat) (w : World) (hr : RN w fa l) (hw : Wf l) (hi : root < l.length) (hl : l.length ≤ 1000) :
    Calls Tryz.prog 125 #[.slice fa l.length fc, .int .i64 (root : Int)] w fun e w' =>
      (∃ a c, e = .returned (.slice a (fsize (trAt l root)) c) ∧ RN w' a (canon (trAt l root))) ∧ Ext w w' := by
  have HF := Lib.hid (finish_any (fc := fc) hr hw hl (root + 1) root (by omega) hi)
  have hmm := @run_makeMap Tryz.prog
  clear hr hw
  go_enter Tryz.func125, Tryz.ntmps125
  go_wp2_with (go_at_call 162; simp only [Nat.add_assoc, Nat.reduceAdd]; go_must (refine (HF.out _ [] (.slice none 0 0) (fun _ => none) (CS.start w fa fc l _ _ _ _ _)).mono ?_; rintro e w1 ⟨v1, D1, rfl, hc, hf, hj⟩; have c5 := hc.co))
  obtain ⟨va, vc, hv, hrn⟩ := RN_of_own (l := encL (addT (trAt l root) [])) (by rw [encL_length]; exact hc.own) (by rw [encL_length]; have := hc.len; omega)
  rw [encL_length] at hv
  subst hv
  go_ret
  exact ⟨⟨va, vc, rfl, hrn⟩, hc.ext⟩
end Wt
