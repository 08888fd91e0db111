/- A law on regions that draw their order: two operations may come up. -/
import Derived.Test.YtoacdccachhjdaaGreatDoorMABc
import Derived.Test.YtoacdccachhjdaaGreatDoorMACb
namespace Wt
open Go

section
variable {P : Program} {md : Region.Mode} {L : List Oper} {Q : Exit → Act → World → Prop} {S : World → Prop} {n fuel : Nat} {listed : Array Bool} {a : Act} {w : World}
theorem wpAnyE_two {k j : Nat} {o p : Oper} (ho : OpAt L k o) (hp : OpAt L j p) (hr : Region.ready md L.toArray listed = [k, j])
    (h : ∀ K : Act → World → Prop, Shut (∀ a' w', (k < n → S w') → wpAnyE P md L.toArray Q S n fuel (listed.setIfInBounds k true) a' w' → K a' w') → if Region.wanted o (yielded L.toArray a.tmps) = true then Oper.wp P o a w K Q else K (a.put o.dst undef) w)
    (h2 : ∀ K : Act → World → Prop, Shut (∀ a' w', (j < n → S w') → wpAnyE P md L.toArray Q S n fuel (listed.setIfInBounds j true) a' w' → K a' w') → if Region.wanted p (yielded L.toArray a.tmps) = true then Oper.wp P p a w K Q else K (a.put p.dst undef) w) :
    wpAnyE P md L.toArray Q S n (fuel + 1) listed a w := by
  refine ⟨fun h1 => (by rw [hr] at h1; cases h1), fun i hi => ?_⟩
  rw [hr] at hi
  have hik : i = k ∨ i = j := by simpa using hi
  rcases hik with rfl | rfl
  · exact wpOp_step (by simpa using ho.eq) fun K hK => h K fun a' w' h1 h2 => hK a' w' ⟨h1, h2⟩
  · exact wpOp_step (by simpa using hp.eq) fun K hK => h2 K fun a' w' h1 h2 => hK a' w' ⟨h1, h2⟩
theorem wpAnyE_skip {i : Nat} {oi : Oper} (hi : OpAt L i oi) (hB : takeE md L.toArray n listed i = true) (hQ : ∀ c a w, Q (.panic c) (a.put oi.dst undef) w → Q (.panic c) a w) (hS : S w)
    (hw : Region.wanted oi (yielded L.toArray a.tmps) = false)
    (h : wpAnyE P md L.toArray Q S n fuel (listed.setIfInBounds i true) (a.put oi.dst undef) w) : wpAnyE P md L.toArray Q S n (fuel + 1) listed a w := by
  simp only [takeE, Bool.and_eq_true] at hB
  obtain ⟨⟨⟨⟨hsel, hf⟩, hr⟩, hcl⟩, hz⟩ := hB
  have hi' : L.toArray[i]? = some oi := by simpa using hi.eq
  refine wpAnyE_first hi' (Region.noSelect_spec hsel) hQ (fun z h1 h2 => ?_) fuel listed a w (fun j oj hj hlj e he hb => ?_) (Region.free_spec hi' hf) (by simpa using hr) (Or.inr ⟨hw, rfl⟩) hS h
  · have := List.all_eq_true.1 hz z (List.mem_range.2 h2)
    rw [Bool.or_eq_true] at this
    rcases this with h | h
    · simp only [decide_eq_true_eq] at h; omega
    · exact h
  · have := List.all_eq_true.1 hcl j (List.mem_range.2 (Array.getElem?_eq_some_iff.1 hj).1)
    rw [hlj, hj] at this
    simp only [Bool.not_true, Bool.false_or] at this
    have := Array.all_eq_true'.1 this e he
    rw [hb] at this
    simpa using this
end
end Wt

/- Lists of formulas in memory: a literal one, old formulas, copies. -/
namespace Wt
open Go Go.RowKit Go.Maps Go.Proofs Fm

section
variable {W0 w wq W1 : World} {L : List (List Nd)} {svs : List Value} {v v' : Value}
theorem StayN.old {g : Option Nat} {a : Option Addr} {l : List Nd} (hr : RN W0 a l) (e : Ext W0 w) (hg : ∀ k, g = some k → W0.heap.size ≤ k) : StayN g w a l := fun w' hk => by
  by_cases h0 : 0 < l.length
  · obtain ⟨b', o', e', hb', -⟩ := hr.get h0
    refine (hr.ext e).keepB fun b off e2 => ?_
    rw [e'] at e2
    cases e2
    exact hk _ (Nat.lt_of_lt_of_le hb' e.size) fun e3 => by have h1 := hg _ e3.symm; omega
  · obtain rfl : l = [] := List.eq_nil_of_length_eq_zero (by omega)
    exact RN.nil _ _
/-- A literal list of one formula. -/
theorem FK.one (w : World) (a : Option Addr) (c : Nat) (l : List Nd) (h : RN w a l) : FK w [l] [.slice a l.length c] (.slice (some ⟨w.heap.size, 0, none⟩) 1 1) (w.alloc (.cells #[.slice a l.length c] 44)) :=
  ⟨(Ext.refl w).alloc _, rfl, ⟨rfl, .inr ⟨w.heap.size, 1, #[.slice a l.length c], rfl, Nat.le_refl _, by show (w.heap.push _)[w.heap.size]? = _; simp, Nat.le_refl _, by decide, rfl, rfl⟩⟩, fun j hj => by
    have hj0 : j = 0 := by simp at hj; omega
    subst hj0
    exact ⟨a, c, rfl, StayN.old h ((Ext.refl w).alloc _) (fun k hk => by simp [Value.ownBlock] at hk; omega)⟩⟩
/-- An empty literal list. -/
theorem own_empty (w : World) (B T : Nat) (hB : B ≤ w.heap.size) : (w.alloc (.cells #[] T)).ownsRow B T 1 (.slice (some ⟨w.heap.size, 0, none⟩) 0 0) 0 [] :=
  ⟨rfl, .inr ⟨w.heap.size, 0, #[], rfl, hB, by show (w.heap.push _)[w.heap.size]? = _; simp, Nat.le_refl _, Nat.zero_le _, rfl, rfl⟩⟩
theorem own_ext2 {w w' : World} {B T sz n : Nat} {v : Value} {xs : List Value} (h : w.ownsRow B T sz v n xs) (e : Ext w w') : w'.ownsRow B T sz v n xs :=
  h.kept (row := none) ⟨e.os, e.tape, e.output, e.size, fun k hk _ => e.block k hk⟩ (by cases v.ownBlock <;> simp)
theorem news_grown {V W1 : World} {s : Nat} {r : Option Nat} {l : List Value} (h : ∀ j u, l[j]? = some u → V.cell? ((⟨s, 0, none⟩ : Addr).add j) = some u) (g : V.grownBy W1 r) (hne : some s ≠ r) (hs : s < V.heap.size) : ∀ j u, l[j]? = some u → W1.cell? ((⟨s, 0, none⟩ : Addr).add j) = some u := fun j u hj => by
  have h1 := h j u hj
  rw [Addr.add_lit] at h1 ⊢
  exact (World.cell?_of_block (g.block s hs hne)).trans h1
theorem news_ext {V W1 : World} {ad : Addr} {l : List Value} (h : ∀ j u, l[j]? = some u → V.cell? (ad.add j) = some u) (e : Ext V W1) : ∀ j u, l[j]? = some u → W1.cell? (ad.add j) = some u := fun j u hj => e.cell (h j u hj)
/-- A copy of such a list, in memory made later. -/
theorem FK.copy (h : FK W0 L svs v wq) (e : Ext wq W1) (ho : W1.ownsRow wq.heap.size 44 1 v' svs.length svs) : FK wq L svs v' W1 :=
  ⟨e, h.len, ho, fun j hj => by
    obtain ⟨a, c, h1, h2⟩ := h.rd j hj
    exact ⟨a, c, h1, StayN.old (h2 wq fun _ _ _ => rfl) e fun k hk => (ho.lt k hk).1⟩⟩
theorem FK.cells (h : FK W0 L svs v w) (h0 : 0 < L.length) : ∃ g cap, v = .slice (some ⟨g, 0, none⟩) svs.length cap ∧ g < w.heap.size ∧ ∀ j u, svs[j]? = some u → w.cell? ((⟨g, 0, none⟩ : Addr).add j) = some u := by
  have hl := h.len
  rcases h.own.2 with ⟨rfl, h1⟩ | ⟨g, cap, cur, rfl, hb, hg, hnc, hcm, hcs, htake⟩
  · omega
  · refine ⟨g, cap, rfl, (Array.getElem?_eq_some_iff.1 hg).1, fun j u hj => ?_⟩
    have hjl : j < svs.length := by
      rcases Nat.lt_or_ge j svs.length with h | h
      · exact h
      · rw [List.getElem?_eq_none h] at hj; cases hj
    rw [Addr.add_lit, cell_of_row w g _ cur _ (0, 0) hg, Nat.zero_add]
    have h4 : (cur.toList.take (svs.length * 1))[j]? = some u := by rw [htake]; exact hj
    rw [List.getElem?_take, if_pos (by omega)] at h4
    simpa using h4
theorem FK.ones (h : FK W0 L svs v w) : ∀ u ∈ svs, u.oneCell' = true := fun u hu => by
  obtain ⟨j, hj, rfl⟩ := List.getElem_of_mem hu
  obtain ⟨a, c, h1, -⟩ := h.rd j (by rw [← h.len]; exact hj)
  rw [nth_eq svs j hj] at h1
  rw [h1]; rfl
end
end Wt
