/- Rows that a call owns, over any element of one cell; plain laws on the sets of the nodes of a formula. -/
import Derived.Test.YtoacdccachhjdaaGreatDoorMAAi
import Derived.StillTailTactics
import Derived.Deep.RegionWith
import Derived.RegionTactic
import Derived.WalkKit
import Derived.Test.YtoacdccachhjdaaGreatDoorMAAk
import Derived.Deep.CutRange
import Derived.Deep.OwnRows
namespace Wt
open Go Go.RowKit Go.Proofs Fm

section
variable {α : Type} {w w' : World} {base T n : Nat} {enc : α → Value} {l : List α}
/-- A slice (never nil here) that the call owns holds a list. -/
structure OG (w : World) (base T : Nat) (enc : α → Value) (g n c : Nat) (l : List α) : Prop where
  len : l.length = n
  row : w.ownsRow base T 1 (.slice (some ⟨g, 0, none⟩) n c) n (l.map enc)
theorem OG.base_le {g c : Nat} (h : OG w base T enc g n c l) : base ≤ g := (h.row.lt g rfl).1
theorem OG.lt {g c : Nat} (h : OG w base T enc g n c l) : g < w.heap.size := (h.row.lt g rfl).2
theorem OG.cell [Inhabited α] {g c : Nat} (h : OG w base T enc g n c l) {k : Nat} (hk : k < n) : w.cell? ⟨g, k, none⟩ = some (enc (nth l k)) := by
  have hl := h.len
  rw [h.row.cellAt k (by omega), List.getElem?_map, nth_eq l k (by omega)]
  simp [show k < l.length by omega]
theorem OG.frozen {g c : Nat} (h : OG w base T enc g n c l) (k : Nat) : w.frozen? ⟨g, k, none⟩ = false := h.row.frozenAt k
theorem OG.set {g c : Nat} (h : OG w base T enc g n c l) (k : Nat) (s : α) : OG (w.setCell ⟨g, k, none⟩ (enc s)) base T enc g n c (l.set k s) :=
  ⟨by rw [List.length_set]; exact h.len, by rw [List.map_set]; exact (h.row.stored k (enc s)).1⟩
theorem OG.ext {g c : Nat} (h : OG w base T enc g n c l) (e : Ext w w') : OG w' base T enc g n c l :=
  ⟨h.len, h.row.kept (row := none) ⟨e.os, e.tape, e.output, e.size, fun k hk _ => e.block k hk⟩ (by simp [Value.ownBlock])⟩
theorem OG.other {g c g2 : Nat} (h : OG w base T enc g n c l) (k : Nat) (u : Value) (hne : g ≠ g2) : OG (w.setCell ⟨g2, k, none⟩ u) base T enc g n c l :=
  ⟨h.len, h.row.kept (row := some g2) ⟨rfl, rfl, rfl, by simp, fun j _ hj => heap_setCell_other w ⟨g2, k, none⟩ j u (fun e => hj (by simp [e]))⟩ (by simp [Value.ownBlock, hne])⟩
theorem OG.made (w : World) (n : Nat) (z : α) (hb : base ≤ w.heap.size) (hn : n ≤ 140737488355328) : OG (w.alloc (.cells (madeCells #[enc z] n) T)) base T enc w.heap.size n n (List.replicate n z) := by
  refine ⟨by simp, ?_⟩
  have h := World.ownsRow_lit (base := base) (e := T) (size := 1) w (madeCells #[enc z] n) n hb (by unfold maxLen; omega) (by simp [madeCells])
  rw [toList_madeCells_one] at h
  rw [List.map_replicate]
  exact h
end
theorem RU_of_OG {w : World} {base T g n c : Nat} {l : List (BitVec 64)} (h : OG w base T uv g n c l) (hn : n ≤ 140737488355328) : RU w (some ⟨g, 0, none⟩) l := by
  have hl := h.len
  refine ⟨by omega, fun k hk => ⟨g, 0, rfl, ?_⟩⟩
  rw [Nat.zero_add]
  exact h.cell (by omega)
theorem RB_of_OG {w : World} {base T g n c : Nat} {l : List Bool} (h : OG w base T Value.bool g n c l) (hn : n ≤ 140737488355328) : RB w (some ⟨g, 0, none⟩) l := by
  have hl := h.len
  refine ⟨by omega, fun k hk => ⟨g, 0, rfl, ?_⟩⟩
  rw [Nat.zero_add]
  exact h.cell (by omega)

/-- A list of which the first k are done. -/
def doneL {α : Type} (n k : Nat) (f : Nat → α) (z : α) : List α := (List.range n).map fun j => if j < k then f j else z
section
variable {α : Type} (n k : Nat) (f : Nat → α) (z : α)
theorem doneL_length : (doneL n k f z).length = n := by simp [doneL]
theorem doneL_nth [Inhabited α] {j : Nat} (hj : j < n) : nth (doneL n k f z) j = if j < k then f j else z := by
  rw [nth_eq _ _ (by rw [doneL_length]; exact hj)]
  simp [doneL]
theorem doneL_zero : doneL n 0 f z = List.replicate n z := by
  unfold doneL
  simp [List.map_const']
theorem doneL_set (hk : k < n) : (doneL n k f z).set k (f k) = doneL n (k + 1) f z := by
  apply List.ext_getElem?
  intro i
  rw [List.getElem?_set]
  by_cases e : k = i
  · subst e
    rw [if_pos rfl, if_pos (by rw [doneL_length]; exact hk)]
    simp [doneL, hk]
  · rw [if_neg e]
    unfold doneL
    rw [List.getElem?_map, List.getElem?_map]
    by_cases hi : i < n
    · rw [List.getElem?_range hi]
      simp only [Option.map_some]
      by_cases h : i < k
      · rw [if_pos h, if_pos (by omega)]
      · rw [if_neg h, if_neg (by omega)]
    · rw [List.getElem?_eq_none (by simpa using hi)]; rfl
theorem doneL_skip (hf : f k = z) : doneL n k f z = doneL n (k + 1) f z := by
  unfold doneL
  apply List.map_congr_left
  intro j _
  by_cases h : j < k
  · rw [if_pos h, if_pos (by omega)]
  · rw [if_neg h]
    by_cases h2 : j = k
    · subst h2; rw [if_pos (by omega), hf]
    · rw [if_neg (by omega)]
theorem doneL_all : doneL n n f z = (List.range n).map f := by
  unfold doneL
  apply List.map_congr_left
  intro j hj
  rw [if_pos (by simpa using hj)]
end

theorem valN_no (M : Mo) {o : Int} (i g : Int) (x y : BitVec 64) (h : o < 1 ∨ 13 < o) : valN M o i g x y = (0#64, false) := by
  unfold valN
  repeat rw [if_neg (by omega)]
theorem valN_false (M : Mo) (o i g : Int) (x y : BitVec 64) (h : (valN M o i g x y).2 = false) : (valN M o i g x y).1 = 0#64 := by
  by_cases ho : o < 1 ∨ 13 < o
  · rw [valN_no M i g x y ho]
  · rcases (show o = 1 ∨ o = 2 ∨ o = 3 ∨ o = 4 ∨ o = 5 ∨ o = 6 ∨ o = 7 ∨ o = 8 ∨ o = 9 ∨ o = 10 ∨ o = 11 ∨ o = 12 ∨ o = 13 by omega) with rfl | rfl | rfl | rfl | rfl | rfl | rfl | rfl | rfl | rfl | rfl | rfl | rfl
    all_goals
      simp [valN] at h ⊢
      try (split at h <;> simp_all)
theorem semT_false (M : Mo) (t : Fm) (h : (semT M t).2 = false) : (semT M t).1 = 0#64 := by
  cases t with
  | leaf o i e g => exact valN_false _ _ _ _ _ _ h
  | un o i e g x =>
    unfold semT at h ⊢
    split
    · rename_i hc; rw [if_pos hc] at h; exact valN_false _ _ _ _ _ _ h
    · rfl
  | bin o i e g x y =>
    unfold semT at h ⊢
    split
    · rename_i hc; rw [if_pos hc] at h; exact valN_false _ _ _ _ _ _ h
    · rfl
/-- Is an operator one of two operands, of those that the checker knows? -/
def bin2 (o : Int) : Prop := (5 ≤ o ∧ o ≤ 8) ∨ o = 13
section
variable {f : List Nd} (hw : Wf f) (M : Mo) {k : Nat} (hk : k < f.length)
include hw hk
theorem nd_op : 1 ≤ (nth f k).op ∧ (nth f k).op ≤ 21 := by
  have := (nodeErr_ok (hw k hk)).1
  rcases useOf_cases _ this with h | h | h | h | h | h | h | h | h | h | h | h | h | h | h | h | h | h | h | h | h <;> omega
theorem nd_i : 0 ≤ (nth f k).i := by
  obtain ⟨h1, _, _, h4, h5⟩ := nodeErr_ok (hw k hk)
  obtain ⟨fr, h' | h' | h' | h' | h' | h' | h' | h' | h'⟩ := useOf_pat _ h1 <;> rw [h'] at h4 h5 <;> simp [needless, wide, outs] at h4 h5 <;> omega
theorem nd_g : 0 ≤ (nth f k).g := by
  obtain ⟨h1, _, _, h4, h5⟩ := nodeErr_ok (hw k hk)
  obtain ⟨fr, h' | h' | h' | h' | h' | h' | h' | h' | h'⟩ := useOf_pat _ h1 <;> rw [h'] at h4 h5 <;> simp [needless, wide, outs] at h4 h5 <;> omega
theorem nd_x : ∃ X : Nat, (nth f k).x = X ∧ X < f.length ∧ (4 ≤ (nth f k).op → X < k) := by
  by_cases hx : (useOf (nth f k).op).1.x = true
  · obtain ⟨h0, h1⟩ := hw.x_lt hk hx
    exact ⟨(nth f k).x.toNat, by omega, by omega, fun _ => h1⟩
  · refine ⟨0, by rw [hw.x_zero hk (by simpa using hx)]; rfl, by omega, fun h => ?_⟩
    exfalso
    apply hx
    have := (nodeErr_ok (hw k hk)).1
    rcases useOf_cases _ this with e | e | e | e | e | e | e | e | e | e | e | e | e | e | e | e | e | e | e | e | e <;> rw [e] at h ⊢ <;> first | rfl | omega
theorem nd_y : ∃ Y : Nat, (nth f k).y = Y ∧ Y < f.length ∧ (bin2 (nth f k).op → Y < k) := by
  by_cases hy : (useOf (nth f k).op).1.y = true
  · obtain ⟨h0, h1⟩ := hw.y_lt hk hy
    exact ⟨(nth f k).y.toNat, by omega, by omega, fun _ => h1⟩
  · refine ⟨0, by rw [hw.y_zero hk (by simpa using hy)]; rfl, by omega, fun h => ?_⟩
    exfalso
    apply hy
    unfold bin2 at h
    rcases (show (nth f k).op = 5 ∨ (nth f k).op = 6 ∨ (nth f k).op = 7 ∨ (nth f k).op = 8 ∨ (nth f k).op = 13 by omega) with e | e | e | e | e <;> rw [e] <;> rfl
/-- The set of a leaf. -/
theorem sem_leaf (x y : BitVec 64) (ho : (nth f k).op < 4) : semT M (trAt f k) = valN M (nth f k).op (nth f k).i (nth f k).g x y := by
  have h1 := nd_op hw hk
  have e : (useOf (nth f k).op).1.x = false := by
    rcases (show (nth f k).op = 1 ∨ (nth f k).op = 2 ∨ (nth f k).op = 3 by omega) with e | e | e <;> rw [e] <;> rfl
  rw [trAt_leaf hk e]
  show valN M _ _ _ _ _ = _
  rcases (show (nth f k).op = 1 ∨ (nth f k).op = 2 ∨ (nth f k).op = 3 by omega) with e | e | e <;> rw [e] <;> simp [valN]
theorem sem_un {X : Nat} (hX : (nth f k).x = X) (y : BitVec 64) (ho : 4 ≤ (nth f k).op) (hb : ¬ bin2 (nth f k).op) :
    semT M (trAt f k) = if (semT M (trAt f X)).2 then valN M (nth f k).op (nth f k).i (nth f k).g (semT M (trAt f X)).1 y else (0#64, false) := by
  have h1 := nd_op hw hk
  unfold bin2 at hb
  by_cases h13 : 13 < (nth f k).op
  · rw [valN_no M _ _ _ _ (.inr h13), ite_self]
    by_cases hx : (useOf (nth f k).op).1.x = true
    · by_cases hy : (useOf (nth f k).op).1.y = true
      · rw [trAt_bin hw hk hy]; simp only [semT]; rw [valN_no M _ _ _ _ (.inr h13), ite_self]
      · rw [trAt_un hw hk hx (by simpa using hy)]; simp only [semT]; rw [valN_no M _ _ _ _ (.inr h13), ite_self]
    · rw [trAt_leaf hk (by simpa using hx)]; exact valN_no M _ _ _ _ (.inr h13)
  · have e : (useOf (nth f k).op).1.x = true ∧ (useOf (nth f k).op).1.y = false := by
      rcases (show (nth f k).op = 4 ∨ (nth f k).op = 9 ∨ (nth f k).op = 10 ∨ (nth f k).op = 11 ∨ (nth f k).op = 12 by omega) with e | e | e | e | e <;> rw [e] <;> exact ⟨rfl, rfl⟩
    rw [trAt_un hw hk e.1 e.2, hX]
    simp only [semT, Int.toNat_natCast]
    rcases (show (nth f k).op = 4 ∨ (nth f k).op = 9 ∨ (nth f k).op = 10 ∨ (nth f k).op = 11 ∨ (nth f k).op = 12 by omega) with e | e | e | e | e <;> rw [e] <;> simp [valN]
theorem sem_bin {X Y : Nat} (hX : (nth f k).x = X) (hY : (nth f k).y = Y) (hb : bin2 (nth f k).op) :
    semT M (trAt f k) = if (semT M (trAt f X)).2 && (semT M (trAt f Y)).2 then valN M (nth f k).op (nth f k).i (nth f k).g (semT M (trAt f X)).1 (semT M (trAt f Y)).1 else (0#64, false) := by
  unfold bin2 at hb
  have e : (useOf (nth f k).op).1.y = true := by
    rcases (show (nth f k).op = 5 ∨ (nth f k).op = 6 ∨ (nth f k).op = 7 ∨ (nth f k).op = 8 ∨ (nth f k).op = 13 by omega) with e | e | e | e | e <;> rw [e] <;> rfl
  rw [trAt_bin hw hk e, hX, hY]
  simp only [semT, Int.toNat_natCast]
end
end Wt

/- A law on regions that draw their order: pure operations are taken first, then the operations that only read (in the order of the text), and what is left goes by the walk's own law. -/
namespace Wt
open Go

section
variable {P : Program} {ops : Array Oper} {md : Region.Mode} {w : World}

/-- Every head operation that is not yet listed is waited for, within the head or by the first of the tail. -/
def sinkG (md : Region.Mode) (ops : Array Oper) (n : Nat) (L0 : Array Bool) : Bool :=
  (List.range n).all fun i => L0.getD i false || (List.range (n + 1)).any fun j => decide (i < j) && Region.waitsFor md ops j i
/-- Every operation of the tail but its first waits for one of the tail before it. -/
def chainG (md : Region.Mode) (ops : Array Oper) (n : Nat) : Bool :=
  (List.range ops.size).all fun t => decide (t ≤ n) || (List.range t).any fun s => decide (n ≤ s) && Region.waitsFor md ops t s
structure InvG (md : Region.Mode) (ops : Array Oper) (n : Nat) (L0 listed : Array Bool) : Prop where
  size : listed.size = ops.size
  closed : ∀ j oj, ops[j]? = some oj → listed.getD j false = true → ∀ e ∈ oj.after, Region.binds md e = true → listed.getD e.on false = true
  tail : ∀ t, n ≤ t → t < ops.size → listed.getD t true = false
  pre : ∀ j, L0.getD j false = true → listed.getD j false = true
theorem InvG.set {n i : Nat} {L0 listed : Array Bool} (inv : InvG md ops n L0 listed) (hi : i ∈ Region.ready md ops listed) (hin : i < n) : InvG md ops n L0 (listed.setIfInBounds i true) := by
  obtain ⟨_, oi, hoi, hall⟩ := mem_ready.1 hi
  refine ⟨by simp [inv.size], fun j oj hj hl e he hb => ?_, fun t ht ht' => by rw [getD_set_ne true (by omega)]; exact inv.tail t ht ht', fun j hj => getD_set_true (inv.pre j hj)⟩
  by_cases hij : i = j
  · subst hij
    have : oj = oi := Option.some.inj (hj.symm.trans hoi)
    subst this
    exact getD_set_true (hall e he hb)
  · rw [getD_set_ne false hij] at hl
    exact getD_set_true (inv.closed j oj hj hl e he hb)
theorem tail_waitsG {n : Nat} {L0 listed : Array Bool} (hs : sinkG md ops n L0 = true) (hc : chainG md ops n = true) (hn : n < ops.size) (inv : InvG md ops n L0 listed) :
    ∀ (d i : Nat), n - i = d → i < n → listed.getD i true = false → ∀ t, n ≤ t → t ∉ Region.ready md ops listed := by
  intro d
  induction d using Nat.strongRecOn with
  | _ d ih =>
    intro i hd hi hun t ht hr
    obtain ⟨_, ot, hot, hall⟩ := mem_ready.1 hr
    have htlt : t < ops.size := (Array.getElem?_eq_some_iff.1 hot).1
    by_cases htn : t = n
    · subst htn
      have h1 := List.all_eq_true.1 hs i (List.mem_range.2 hi)
      rw [Bool.or_eq_true] at h1
      rcases h1 with h1 | h1
      · have := inv.pre i h1
        rw [getD_both hun] at this
        cases this
      · obtain ⟨j, hj, hj2⟩ := List.any_eq_true.1 h1
        simp only [Bool.and_eq_true, decide_eq_true_eq] at hj2
        obtain ⟨oj, hoj, e, he, hb, hon⟩ := Region.waitsFor_spec hj2.2
        have hjle : j ≤ t := by have := List.mem_range.1 hj; omega
        by_cases hjt : j = t
        · subst hjt
          have : oj = ot := Option.some.inj (hoj.symm.trans hot)
          subst this
          have h2 := hall e he hb
          rw [hon, getD_both hun] at h2
          cases h2
        · cases hl : listed.getD j false with
          | true =>
            have h2 := inv.closed j oj hoj hl e he hb
            rw [hon, getD_both hun] at h2
            cases h2
          | false =>
            have hjs : j < listed.size := by rw [inv.size]; omega
            exact ih (t - j) (by omega) j rfl (by omega) (getD_in hjs hl) t (Nat.le_refl _) hr
    · have h1 := List.all_eq_true.1 hc t (List.mem_range.2 htlt)
      rw [Bool.or_eq_true] at h1
      rcases h1 with h1 | h1
      · simp only [decide_eq_true_eq] at h1; omega
      · obtain ⟨s, hsr, hs2⟩ := List.any_eq_true.1 h1
        simp only [Bool.and_eq_true, decide_eq_true_eq] at hs2
        obtain ⟨o', ho', e, he, hb, hon⟩ := Region.waitsFor_spec hs2.2
        have : o' = ot := Option.some.inj (ho'.symm.trans hot)
        subst this
        have h2 := hall e he hb
        have := List.mem_range.1 hsr
        rw [hon, getD_both (inv.tail s hs2.1 (by omega))] at h2
        cases h2
theorem wpAnyL_firstG {n i : Nat} {oi : Oper} {v : Value} {L0 : Array Bool} {L : Array Bool → Act → Prop} (hi : ops[i]? = some oi) (hsel : ∀ (j : Nat) (o : Oper) cs b, ops[j]? = some o → o.op ≠ .select cs b)
    (hs : sinkG md ops n L0 = true) (hc : chainG md ops n = true) (hn : n < ops.size) (hin : i < n)
    (hdone : ∀ listed a, L listed a → ∀ j ∈ Region.ready md ops listed, n ≤ j) :
    ∀ (f : Nat) (listed : Array Bool) (a : Act), InvG md ops n L0 listed →
      (∀ j oj, ops[j]? = some oj → j ≠ i → listed.getD j true = false → (∀ e ∈ oj.after, Region.binds md e = true → e.on ≠ i) → oi.apart ops oj = true) →
      i ∈ Region.ready md ops listed → YieldsAt P ops w oi v a →
      wpAnyL P md ops w n L f (listed.setIfInBounds i true) (a.put oi.dst v) → wpAnyL P md ops w n L (f + 1) listed a := by
  intro f
  induction f with
  | zero =>
    intro listed a inv _ hr hy H
    have hun := (mem_ready.1 hr).1
    refine ⟨fun h => (by rw [h] at hr; cases hr), fun j hj => ?_⟩
    have hjn : j < n := by
      rcases Nat.lt_or_ge j n with h | h
      · exact h
      · exact absurd hj (tail_waitsG hs hc hn inv _ i rfl hin hun j h)
    refine ⟨hjn, ?_⟩
    by_cases hji : j = i
    · subst hji; exact hy.stOp hi H
    · have := hdone _ _ H j (ready_mono hj hji)
      omega
  | succ f ih =>
    intro listed a inv hfree hr hy H
    have hun := (mem_ready.1 hr).1
    refine ⟨fun h => (by rw [h] at hr; cases hr), fun j hj => ?_⟩
    have hjn : j < n := by
      rcases Nat.lt_or_ge j n with h | h
      · exact h
      · exact absurd hj (tail_waitsG hs hc hn inv _ i rfl hin hun j h)
    refine ⟨hjn, ?_⟩
    by_cases hji : j = i
    · subst hji; exact hy.stOp hi H
    · have h1 := (H.2 j (ready_mono hj hji)).2
      obtain ⟨hjun, oj, hoj, hall⟩ := mem_ready.1 hj
      have hnot : ∀ e ∈ oj.after, Region.binds md e = true → e.on ≠ i := fun e he hb heq => by
        have h1 := hall e he hb
        rw [heq, getD_both hun] at h1
        cases h1
      have h2 := stOp_put hoj (hfree j oj hoj hji hjun hnot) (fun cs b => hsel i oi cs b hi) (fun cs b => hsel j oj cs b hoj) hy h1
      have hfree' : ∀ k ok, ops[k]? = some ok → k ≠ i → (listed.setIfInBounds j true).getD k true = false →
          (∀ e ∈ ok.after, Region.binds md e = true → e.on ≠ i) → oi.apart ops ok = true := fun k ok hk hki hun hno => by
        refine hfree k ok hk hki ?_ hno
        by_cases hjk : j = k
        · subst hjk; exact hjun
        · rw [getD_set_ne true hjk] at hun; exact hun
      refine stOp_mono (fun a' h3 => ih (listed.setIfInBounds j true) a' (inv.set hj hjn) hfree' (ready_mono hr (Ne.symm hji)) h3.1 ?_) h2
      rw [Array.setIfInBounds_comm _ _ hji]
      exact h3.2
/-- The head, number by number. -/
def headG (md : Region.Mode) (ops : Array Oper) (n : Nat) : List Nat → Array Bool → Bool
  | [], listed => (Region.ready md ops listed).all fun j => decide (n ≤ j)
  | k :: ks, listed => decide (k < n) && (Region.ready md ops listed).contains k && Region.free md ops listed k && headG md ops n ks (listed.setIfInBounds k true)
def setAll : List Nat → Array Bool → Array Bool
  | [], L => L
  | k :: ks, L => setAll ks (L.setIfInBounds k true)
theorem wpAnyL_headG {n : Nat} {L0 : Array Bool} {Lq : Act → Prop} (hsel : Region.noSelect ops = true) (hs : sinkG md ops n L0 = true) (hc : chainG md ops n = true) (hn : n < ops.size) (LF : Array Bool)
    (hF : ∀ j ∈ Region.ready md ops LF, n ≤ j) :
    ∀ (ks : List Nat) (l : List Oper) (listed : Array Bool) (a : Act), (ks.map fun k => ops[k]?) = l.map some → setAll ks listed = LF → InvG md ops n L0 listed →
    headG md ops n ks listed = true → wpStill P ops w Lq l a →
    wpAnyL P md ops w n (fun listed' a' => listed' = LF ∧ Lq a') ks.length listed a
  | [], l, listed, a, hl, hF2, inv, hB, h => by
    have : l = [] := by simpa using hl.symm
    subst this
    exact ⟨hF2, h⟩
  | k :: ks, [], listed, a, hl, hF2, inv, hB, h => by simp at hl
  | k :: ks, o :: l, listed, a, hl, hF2, inv, hB, h => by
    simp only [List.map_cons, List.cons.injEq] at hl
    obtain ⟨h0, hl⟩ := hl
    simp only [headG, Bool.and_eq_true, decide_eq_true_eq] at hB
    obtain ⟨⟨⟨hkn, hr⟩, hf⟩, hB'⟩ := hB
    have hr' : k ∈ Region.ready md ops listed := by simpa using hr
    have hst : stOp P ops w k (wpStill P ops w Lq l) a := by unfold stOp; simp only [h0]; exact h
    obtain ⟨v, hy, hK⟩ := yieldsAt_of_stOp h0 hst
    exact wpAnyL_firstG h0 (Region.noSelect_spec hsel) hs hc hn hkn (fun listed' a' hL => by rw [hL.1]; exact hF) ks.length listed a inv (Region.free_spec h0 hf) hr' hy
      (wpAnyL_headG hsel hs hc hn LF hF ks l _ _ hl hF2 (inv.set hr' hkn) hB' hK)
/-- Is a listing closed: what a listed operation waits for is listed? -/
def closedG (md : Region.Mode) (ops : Array Oper) (listed : Array Bool) : Bool :=
  (List.range ops.size).all fun j => !listed.getD j false || (match ops[j]? with | some oj => oj.after.all fun e => !Region.binds md e || listed.getD e.on false | none => true)
def tailG (ops : Array Oper) (n : Nat) (listed : Array Bool) : Bool := (List.range ops.size).all fun t => decide (t < n) || !listed.getD t true
/-- All that is asked of a region and of a listing of it. -/
def regG (md : Region.Mode) (ops : Array Oper) (n : Nat) (ks : List Nat) (listed : Array Bool) : Bool :=
  Region.noSelect ops && sinkG md ops n listed && chainG md ops n && decide (n < ops.size) && headG md ops n ks listed && closedG md ops listed && tailG ops n listed && decide (listed.size = ops.size) && (Region.ready md ops (setAll ks listed)).all fun j => decide (n ≤ j)
theorem wpAny_headG {n : Nat} (ks : List Nat) (g : Nat) {l : List Oper} {listed : Array Bool} {a : Act} {Q : Exit → Act → World → Prop} (hB : regG md ops n ks listed = true) (hl : (ks.map fun k => ops[k]?) = l.map some)
    (h : wpStill P ops w (fun a' => wpAny P md ops Q g (setAll ks listed) a' w) l a) : wpAny P md ops Q (ks.length + g) listed a w := by
  simp only [regG, Bool.and_eq_true, decide_eq_true_eq] at hB
  obtain ⟨⟨⟨⟨⟨⟨⟨⟨hsel, hs⟩, hc⟩, hn⟩, hh⟩, hcl⟩, ht⟩, hsz⟩, hF⟩ := hB
  have inv : InvG md ops n listed listed := by
    refine ⟨hsz, fun j oj hj hlj e he hb => ?_, fun t h1 h2 => ?_, fun _ h => h⟩
    · have := List.all_eq_true.1 hcl j (List.mem_range.2 (Array.getElem?_eq_some_iff.1 hj).1)
      rw [hlj, hj] at this
      simp only [Bool.not_true, Bool.false_or] at this
      have := Array.all_eq_true'.1 this e he
      rw [hb] at this
      simpa using this
    · have := List.all_eq_true.1 ht t (List.mem_range.2 h2)
      simp only [Bool.or_eq_true, decide_eq_true_eq, Bool.not_eq_true'] at this
      rcases this with h | h
      · omega
      · exact h
  exact wpAny_of_head (fun listed' a' hL => by rw [hL.1]; exact hL.2) _ _ _
    (wpAnyL_headG hsel hs hc hn (setAll ks listed) (fun j hj => by simpa using List.all_eq_true.1 hF j hj) ks l listed a hl rfl inv hh h)
/-- What is left comes up one by one, in the given order: it goes as a plain list. -/
def seqG (md : Region.Mode) (ops : Array Oper) : List Nat → Array Bool → Bool
  | [], listed => (Region.ready md ops listed).isEmpty
  | k :: ks, listed => decide (Region.ready md ops listed = [k]) && seqG md ops ks (listed.setIfInBounds k true)
theorem wpAny_of_seqG {Q : Exit → Act → World → Prop} : ∀ (ks : List Nat) (l : List Oper) (listed : Array Bool) (a : Act) (w : World), (ks.map fun k => ops[k]?) = l.map some →
    seqG md ops ks listed = true → wpList P ops Q l a w → wpAny P md ops Q ks.length listed a w
  | [], l, listed, a, w, hl, hB, h => by
    have : l = [] := by simpa using hl.symm
    subst this
    exact ⟨by simpa [seqG] using hB, h⟩
  | k :: ks, [], _, _, _, hl, _, _ => by simp at hl
  | k :: ks, o :: l, listed, a, w, hl, hB, h => by
    simp only [List.map_cons, List.cons.injEq] at hl
    obtain ⟨h0, hl⟩ := hl
    simp only [seqG, Bool.and_eq_true, decide_eq_true_eq] at hB
    refine ⟨fun h1 => (by rw [hB.1] at h1; cases h1), fun i hi => ?_⟩
    rw [hB.1] at hi
    have hik : i = k := by simpa using hi
    subst hik
    have hw : wpOp P ops Q i (wpList P ops Q l) a w := by unfold wpOp; simp only [h0]; exact h
    exact wpOp_mono (fun a' w' h' => wpAny_of_seqG ks l _ a' w' hl hB.2 h') hw
end
section
variable {P : Program} {L : List Oper} {md : Region.Mode} {w : World}
/-- The operation of a number. -/
inductive OpAt : List Oper → Nat → Oper → Prop where
  | here {o : Oper} {l : List Oper} : OpAt (o :: l) 0 o
  | next {o o' : Oper} {l : List Oper} {k : Nat} (h : OpAt l k o) : OpAt (o' :: l) (k + 1) o
theorem OpAt.eq {L : List Oper} {k : Nat} {o : Oper} (h : OpAt L k o) : L[k]? = some o := by
  induction h with
  | here => rfl
  | next _ ih => exact List.getElem?_cons_succ.trans ih
/-- The operations of these numbers. -/
inductive Picks (L : List Oper) : List Nat → List Oper → Prop where
  | nil : Picks L [] []
  | cons {k : Nat} {ks : List Nat} {o : Oper} {l : List Oper} (h : OpAt L k o) (t : Picks L ks l) : Picks L (k :: ks) (o :: l)
theorem Picks.eq {L : List Oper} {ks : List Nat} {l : List Oper} (h : Picks L ks l) : (ks.map fun k => L[k]?) = l.map some := by
  induction h with
  | nil => rfl
  | cons h _ ih => simp only [List.map_cons, h.eq, ih]
theorem get_toArray (ks : List Nat) : (ks.map fun k => L.toArray[k]?) = ks.map fun k => L[k]? := by simp
/-- The same, with the region's operations as a list: so that each is met as it is written. -/
theorem wpAny_headL {n : Nat} (ks : List Nat) (g : Nat) {l : List Oper} {listed : Array Bool} {a : Act} {Q : Exit → Act → World → Prop} (hB : regG md L.toArray n ks listed = true) (hl : Picks L ks l)
    (h : wpStill P L.toArray w (fun a' => wpAny P md L.toArray Q g (setAll ks listed) a' w) l a) : wpAny P md L.toArray Q (ks.length + g) listed a w :=
  wpAny_headG ks g hB ((get_toArray ks).trans hl.eq) h
theorem wpAny_of_seqL {Q : Exit → Act → World → Prop} (ks : List Nat) (l : List Oper) (listed : Array Bool) (a : Act) (w : World) (hl : Picks L ks l)
    (hB : seqG md L.toArray ks listed = true) (h : wpList P L.toArray Q l a w) : wpAny P md L.toArray Q ks.length listed a w :=
  wpAny_of_seqG ks l listed a w ((get_toArray ks).trans hl.eq) hB h
end
end Wt

/- Walks: checker.Sets. -/
namespace Wt
open Go Go.RowKit Go.Proofs Fm

def setsOf (M : Mo) (f : List Nd) : List (BitVec 64) := if reqErr M f = 0 then (List.range f.length).map (fun k => (semT M (trAt f k)).1) else []
def RetS (M : Mo) (f : List Nd) (e : Ending) (w w' : World) : Prop := ∃ a c, e = .returned (.tuple #[.slice a (setsOf M f).length c, .int .i64 (reqErr M f)]) ∧ RU w' a (setsOf M f) ∧ Ext w w'
theorem reqErr_ok {M : Mo} {f : List Nd} (h : reqErr M f = 0) : moCheck M = 0 ∧ fCheck f = 0 ∧ fFrags f < 16 ∧ fFits f M.rel.length M.val.length = true := by
  unfold reqErr at h
  by_cases h1 : moCheck M = 0
  · rw [if_neg (by simp [h1])] at h
    by_cases h2 : fCheck f = 0
    · rw [if_neg (by simp [h2])] at h
      by_cases h3 : 16 ≤ fFrags f
      · rw [if_pos h3] at h; omega
      · rw [if_neg h3] at h
        by_cases h4 : fFits f M.rel.length M.val.length = false
        · rw [if_pos h4] at h; omega
        · exact ⟨h1, h2, by omega, by simpa using h4⟩
    · rw [if_pos h2] at h; exact absurd h h2
  · rw [if_pos h1] at h; exact absurd h h1
theorem bool_info : (Tryz.prog.info? 4).map (fun i => (i.zero, i.size, i.bytes)) = some (some (.bool false), 1, 1) := by kernel_rfl
theorem cell_setOther (w : World) (g k b o : Nat) (u : Value) (h : b ≠ g) : (w.setCell ⟨g, k, none⟩ u).cell? ⟨b, o, none⟩ = w.cell? ⟨b, o, none⟩ :=
  World.cell?_of_block (heap_setCell_other w ⟨g, k, none⟩ b u h)
def bin2B (o : Int) : Bool := decide ((5 ≤ o ∧ o ≤ 8) ∨ o = 13)
theorem bin2B_iff (o : Int) : bin2B o = true ↔ bin2 o := by simp [bin2B, bin2]
/-- What a round of Sets keeps. -/
structure SetsAt (W0 wr : World) (M : Mo) (f : List Nd) (g1 g2 k : Nat) : Prop where
  ext : Ext W0 wr
  sets : OG wr W0.heap.size 63 uv g1 f.length f.length (doneL f.length k (fun j => (semT M (trAt f j)).1) 0#64)
  fine : OG wr W0.heap.size 4 Value.bool g2 f.length f.length (doneL f.length k (fun j => (semT M (trAt f j)).2) false)
theorem SetsAt.mono {W0 wr w2 : World} {M : Mo} {f : List Nd} {g1 g2 k : Nat} (h : SetsAt W0 wr M f g1 g2 k) (e : Ext wr w2) : SetsAt W0 w2 M f g1 g2 k :=
  ⟨h.ext.trans e, h.sets.ext e, h.fine.ext e⟩
theorem SetsAt.skip {W0 wr : World} {M : Mo} {f : List Nd} {g1 g2 k : Nat} (h : SetsAt W0 wr M f g1 g2 k) (e : semT M (trAt f k) = (0#64, false)) : SetsAt W0 wr M f g1 g2 (k + 1) :=
  ⟨h.ext, by rw [← doneL_skip _ _ _ _ (by rw [e])]; exact h.sets, by rw [← doneL_skip _ _ _ _ (by rw [e])]; exact h.fine⟩
theorem SetsAt.put {W0 wr : World} {M : Mo} {f : List Nd} {g1 g2 k : Nat} (h : SetsAt W0 wr M f g1 g2 k) (hne : g1 ≠ g2) (hk : k < f.length) {p : BitVec 64 × Bool} (e : semT M (trAt f k) = p) :
    SetsAt W0 ((wr.setCell ⟨g1, k, none⟩ (.int .u64 (un p.1))).setCell ⟨g2, k, none⟩ (.bool p.2)) M f g1 g2 (k + 1) := by
  subst e
  refine ⟨(h.ext.setCell h.sets.base_le _).setCell h.fine.base_le _, ?_, ?_⟩
  · rw [← doneL_set _ _ _ _ hk]
    exact (h.sets.set k _).other _ _ hne
  · rw [← doneL_set _ _ _ _ hk]
    exact (h.fine.other _ _ (Ne.symm hne)).set k _

set_option maxRecDepth 20000 in
set_option maxHeartbeats 10000000 in
theorem sets_any (M : Mo) (va ra : Option Addr) (vc rc : Nat) (fa : Option Addr) (fc : Nat) (f : List Nd) (w : World) (hm : RM w va ra M) (hf : RN w fa f) :
    Calls Tryz.prog 99 #[.agg #[.int .i64 M.worlds, .slice va M.val.length vc, .slice ra M.rel.length rc], .slice fa f.length fc] w fun e w' => RetS M f e w w' := by
  have hE0 := (Ext.refl w).alloc (.cells #[.int .i64 M.worlds, .slice va M.val.length vc, .slice ra M.rel.length rc] 28)
  have hm0 := hm.ext hE0
  have hf0 := hf.ext hE0
  have H := Lib.hid (request_any M va ra vc rc fa fc f _ hm0 hf0)
  have HE := Lib.hid hE0
  have HM := Lib.hid hm0
  have HF := Lib.hid hf0
  have hfl := hf.len
  clear hE0 hm hf hm0 hf0
  by_cases h : reqErr M f = 0
  · obtain ⟨h1, h2, _, _⟩ := reqErr_ok h
    obtain ⟨N, ok⟩ := moCheck_ok h1
    obtain ⟨hf0, hf200, hw⟩ := fCheck_ok.1 h2
    have hN : setsOf M f = (List.range f.length).map (fun k => (semT M (trAt f k)).1) := if_pos h
    have HN := Lib.hid hN
    have HR := Lib.hid h
    have HW := Lib.hid hw
    have OK := Lib.hid ok
    have mk1 := fun (w : World) => run_make_row' (P := Tryz.prog) 25 63 (.int .u64 0) 8 Tryz.underlying25 u64_info rfl .i64 .i64 f.length (by omega) (by omega) w
    have mk2 := fun (w : World) => run_make_row' (P := Tryz.prog) 68 4 (.bool false) 1 Tryz.underlying68 bool_info rfl .i64 .i64 f.length (by omega) (by omega) w
    clear h1 h2 hN h hw ok
    rename_i x1 x2
    clear x1 x2
    obtain ⟨m0, m1, m2⟩ := MoBox.new w M.worlds M.val M.rel va vc ra rc 28
    go_enter Tryz.func99, Tryz.ntmps99
    go_wp2_with (go_at_call 143; refine H.out.mono ?_; rintro e w1 ⟨rfl, hE1⟩; rw [HR.out]; have q0 := hE1.cell m0; have q1 := hE1.cell m1; have q2 := hE1.cell m2)
    have hS0 : SetsAt (w.alloc (.cells #[.int .i64 M.worlds, .slice va M.val.length vc, .slice ra M.rel.length rc] 28)) ((w1.alloc (.cells (madeCells #[.int .u64 0] f.length) 63)).alloc (.cells (madeCells #[.bool false] f.length) 4)) M f w1.heap.size (w1.heap.size + 1) 0 := by
      refine ⟨(hE1.alloc _).alloc _, ?_, ?_⟩
      · rw [doneL_zero]
        exact (OG.made (enc := uv) w1 f.length 0#64 hE1.size hfl).ext ((Ext.refl _).alloc _)
      · rw [doneL_zero]
        have := OG.made (enc := Value.bool) (T := 4) (w1.alloc (.cells (madeCells #[.int .u64 0] f.length) 63)) f.length false (Nat.le_trans hE1.size (by simp)) hfl
        simpa using this
    have HS0 := Lib.hid hS0
    have hgne : w1.heap.size ≠ w1.heap.size + 1 := by omega
    clear hS0 q0 q1 q2 mk1 mk2
    generalize w1.heap.size = g1 at HS0 hgne ⊢
    generalize hg2 : g1 + 1 = g2 at HS0 hgne ⊢
    generalize ((w1.alloc (.cells (madeCells #[.int .u64 0] f.length) 63)).alloc (.cells (madeCells #[.bool false] f.length) 4)) = wl at HS0 ⊢
    clear hE1 hg2
    go_loopw [26] (fun i wr => ∃ k : Nat, k ≤ f.length ∧ i = .int .i64 k ∧ SetsAt (w.alloc (.cells #[.int .i64 M.worlds, .slice va M.val.length vc, .slice ra M.rel.length rc] 28)) wr M f g1 g2 k) (fun i _ => f.length - (intOf i).toNat)
    case atStart => exact ⟨0, Nat.zero_le _, rfl, HS0.out⟩
    case round =>
      obtain ⟨k, hk, rfl, hs⟩ := hrel
      have HS := Lib.hid hs
      clear HS0
      by_cases hlt : k < f.length
      · obtain ⟨b, off, rfl, hb, n0, n1, n2, n3, n4, n5⟩ := (HF.out.ext hs.ext).get hlt
        obtain ⟨X, hX, hXl, hXk⟩ := nd_x HW.out hlt
        obtain ⟨Y, hY, hYl, hYk⟩ := nd_y HW.out hlt
        have hi0 := nd_i HW.out hlt
        have hg0 := nd_g HW.out hlt
        rw [hX] at n4
        rw [hY] at n5
        have q0 := hs.ext.cell m0
        have q1 := hs.ext.cell m1
        have q2 := hs.ext.cell m2
        have hwl : w.heap.size < wr.heap.size := by have := hs.ext.size; simp at this; omega
        have hs1l := hs.sets.lt
        have hs2l := hs.fine.lt
        have hb1 : w.heap.size ≠ g1 := by have := hs.sets.base_le; simp at this; omega
        have hb2 : w.heap.size ≠ g2 := by have := hs.fine.base_le; simp at this; omega
        have bx := hs.fine.cell hXl
        have by1 := hs.fine.cell hYl
        have cx : wr.cell? ⟨g1, X, none⟩ = some (.int .u64 (un (nth (doneL f.length k (fun j => (semT M (trAt f j)).1) 0#64) X))) := hs.sets.cell hXl
        have cy : wr.cell? ⟨g1, Y, none⟩ = some (.int .u64 (un (nth (doneL f.length k (fun j => (semT M (trAt f j)).1) 0#64) Y))) := hs.sets.cell hYl
        generalize hSX : nth (doneL f.length k (fun j => (semT M (trAt f j)).1) 0#64) X = sx at cx
        generalize hSY : nth (doneL f.length k (fun j => (semT M (trAt f j)).1) 0#64) Y = sy at cy
        generalize hBX : nth (doneL f.length k (fun j => (semT M (trAt f j)).2) false) X = fx at bx
        generalize hBY : nth (doneL f.length k (fun j => (semT M (trAt f j)).2) false) Y = fy at by1
        have hL : (nth f k).op < 4 → semT M (trAt f k) = valN M (nth f k).op (nth f k).i (nth f k).g sx sy := fun ho => sem_leaf HW.out M hlt sx sy ho
        have hU : 4 ≤ (nth f k).op → ¬ bin2 (nth f k).op → semT M (trAt f k) = if fx then valN M (nth f k).op (nth f k).i (nth f k).g sx sy else (0#64, false) := by
          intro h4 hb
          have hxk := hXk h4
          rw [doneL_nth _ _ _ _ hXl, if_pos hxk] at hSX hBX
          rw [sem_un HW.out M hlt hX sy h4 hb, hSX, hBX]
        have hB : bin2 (nth f k).op → semT M (trAt f k) = if fx && fy then valN M (nth f k).op (nth f k).i (nth f k).g sx sy else (0#64, false) := by
          intro hb
          have hxk := hXk (by unfold bin2 at hb; omega)
          have hyk := hYk hb
          rw [doneL_nth _ _ _ _ hXl, if_pos hxk] at hSX hBX
          rw [doneL_nth _ _ _ _ hYl, if_pos hyk] at hSY hBY
          rw [sem_bin HW.out M hlt hX hY hb, hSX, hBX, hSY, hBY]
        clear hSX hSY hBX hBY hX hXk hY hYk hs
        have h21 := nd_op HW.out hlt
        generalize (nth f k).op = op at n0 hL hU hB h21
        generalize (nth f k).i = ni at n1 hi0 hL hU hB
        generalize (nth f k).e = ne at n2
        generalize (nth f k).g = ng at n3 hg0 hL hU hB
        have hvc := fun W (h : RM W va ra M) => value_any M va ra vc rc ⟨op, ni, ne, ng, X, Y⟩ sx sy W h N OK.out hi0 hg0
        dsimp only at hvc
        have HVC := Lib.hid hvc
        clear hvc
        have hok : ∃ b1 b2 : Bool, b1 = (if op < 4 then true else fx) ∧ b2 = (if bin2B op then b1 && fy else b1) ∧ semT M (trAt f k) = if b2 then valN M op ni ng sx sy else (0#64, false) := by
          refine ⟨_, _, rfl, rfl, ?_⟩
          by_cases ho : op < 4
          · have hb : bin2B op = false := by unfold bin2B; simp; omega
            rw [hL ho, hb, if_pos ho]; rfl
          · rw [if_neg ho]
            by_cases hb : bin2B op = true
            · rw [hB ((bin2B_iff op).1 hb), hb]; rfl
            · rw [hU (by omega) (fun h => hb ((bin2B_iff op).2 h)), if_neg hb]
        obtain ⟨b1, b2, hb1, hb2, hv⟩ := hok
        have HV := Lib.hid hv
        have HB2 := Lib.hid hb2
        clear hL hU hB hv hb2
        go_upto_if 33 with fail
        go_cut [11] from 27 to 83 (fun s11 wc => s11 = .bool b1 ∧ wc = wr.alloc (.cells #[.int .i64 op, .int .i64 ni, .int .i64 ne, .int .i64 ng, .int .i64 (X : Int), .int .i64 (Y : Int)] 109))
        case first =>
          by_cases ho : op < 4
          · rw [if_pos ho] at hb1
            go_wp2_with fail
            go_meet
            case rel => exact ⟨by rw [hb1]; try rfl, rfl⟩
          · rw [if_neg ho] at hb1
            have h4 : 4 ≤ op := by omega
            go_wp2_with fail
            go_meet
            case rel => exact ⟨by rw [hb1]; try rfl, rfl⟩
        case rest =>
          obtain ⟨rfl, rfl⟩ := hcut
          go_upto_region 12 with fail
          go_cut [51] from 27 to 83 (fun s51 wc => s51 = .bool (bin2B op) ∧ wc = wr.alloc (.cells #[.int .i64 op, .int .i64 ni, .int .i64 ne, .int .i64 ng, .int .i64 (X : Int), .int .i64 (Y : Int)] 109))
          case first =>
            clear hb1
            by_cases hb : bin2B op = true
            · have hbb := hb
              unfold bin2B at hb
              simp only [decide_eq_true_eq] at hb
              by_cases h13 : op = 13
              · have e13 : (op == 13) = true := by simp [h13]
                have h5 : 5 ≤ op := by omega
                have hnb : 8 < op := by omega
                clear h13 hb
                go_wp2_with fail
                go_meet
                case rel => exact ⟨by rw [hbb]; try rfl, rfl⟩
              · have e13 : (op == 13) = false := by simp [h13]
                have hlo : 5 ≤ op ∧ op ≤ 8 := by omega
                obtain ⟨hlo1, hlo2⟩ := hlo
                clear h13 hb
                go_wp2_with fail
                go_meet
                case rel => exact ⟨by rw [hbb]; try rfl, rfl⟩
            · have hbb : bin2B op = false := by simpa using hb
              unfold bin2B at hb
              simp only [decide_eq_true_eq] at hb
              have e13 : (op == 13) = false := by simp; omega
              by_cases h5 : 5 ≤ op
              · have d8 : decide (op ≤ 8) = false := by simp; omega
                clear hb
                go_wp2_with fail
                go_meet
                case rel => exact ⟨by rw [hbb]; try rfl, rfl⟩
              · clear hb
                go_wp2_with fail
                go_meet
                case rel => exact ⟨by rw [hbb]; try rfl, rfl⟩
          case rest =>
          obtain ⟨rfl, rfl⟩ := hcut
          have hb2 := HB2.out
          go_upto_if 51 with fail
          go_cut [11] from 27 to 83 (fun s11 wc => s11 = .bool b2 ∧ wc = wr.alloc (.cells #[.int .i64 op, .int .i64 ni, .int .i64 ne, .int .i64 ng, .int .i64 (X : Int), .int .i64 (Y : Int)] 109))
          case first =>
            clear hb1
            cases hbb : bin2B op
            · rw [hbb] at hb2
              go_wp2_with fail
              go_meet
              case rel => exact ⟨by rw [hb2]; try rfl, rfl⟩
            · rw [hbb] at hb2
              cases b1
              · go_wp2_with fail
                go_meet
                case rel => exact ⟨by rw [hb2]; try rfl, rfl⟩
              · go_wp2_with fail
                go_meet
                case rel => exact ⟨by rw [hb2]; try rfl, rfl⟩
          case rest =>
            obtain ⟨rfl, rfl⟩ := hcut
            clear hb1 hb2 HB2
            cases b2
            · have HV2 : Hid (semT M (trAt f k) = (0#64, false)) := HV.out
              go_wp2_with fail
              go_roundw
              case rel =>
                exact ⟨k + 1, hlt, by go_num, (HS.out.mono ((Ext.refl wr).alloc _)).skip HV2.out⟩
              case measure => simp [intOf]; omega
            · have HV2 : Hid (semT M (trAt f k) = valN M op ni ng sx sy) := HV.out
              go_wp2_with fail
              refine wp_region_any (by kernel_rfl) ?_
              try (change wpAny _ _ _ _ _ _ _ (World.drew _))
              refine wpAny_take (i := 0) (v := ?_) rfl (by kernel_rfl) (by kernel_rfl) (by kernel_rfl) (fun _ _ _ h => h) (Or.inl ⟨by rfl, ?_⟩) ?_
              rotate_left
              focus (intro w; go_simp; try with_reducible rfl)
              refine wpAny_take (i := 1) (v := ?_) rfl (by kernel_rfl) (by kernel_rfl) (by kernel_rfl) (fun _ _ _ h => h) (Or.inl ⟨by rfl, ?_⟩) ?_
              rotate_left
              focus (intro w; go_simp; try with_reducible rfl)
              refine wpAny_take (i := 2) (v := ?_) rfl (by kernel_rfl) (by kernel_rfl) (by kernel_rfl) (fun _ _ _ h => h) (Or.inl ⟨by rfl, ?_⟩) ?_
              rotate_left
              focus (intro w; go_simp; try with_reducible rfl)
              refine wpAny_take (i := 3) (v := ?_) rfl (by kernel_rfl) (by kernel_rfl) (by kernel_rfl) (fun _ _ _ h => h) (Or.inl ⟨by rfl, ?_⟩) ?_
              rotate_left
              focus (intro w; go_simp; try with_reducible rfl)
              refine wpAny_headL (n := 16) [4, 5, 6, 7, 8, 9, 10, 11, 12, 13, 14, 15] 8 (by kernel_rfl) (.cons (.next (.next (.next (.next (.here))))) (.cons (.next (.next (.next (.next (.next (.here)))))) (.cons (.next (.next (.next (.next (.next (.next (.here))))))) (.cons (.next (.next (.next (.next (.next (.next (.next (.here)))))))) (.cons (.next (.next (.next (.next (.next (.next (.next (.next (.here))))))))) (.cons (.next (.next (.next (.next (.next (.next (.next (.next (.next (.here)))))))))) (.cons (.next (.next (.next (.next (.next (.next (.next (.next (.next (.next (.here))))))))))) (.cons (.next (.next (.next (.next (.next (.next (.next (.next (.next (.next (.next (.here)))))))))))) (.cons (.next (.next (.next (.next (.next (.next (.next (.next (.next (.next (.next (.next (.here))))))))))))) (.cons (.next (.next (.next (.next (.next (.next (.next (.next (.next (.next (.next (.next (.next (.here)))))))))))))) (.cons (.next (.next (.next (.next (.next (.next (.next (.next (.next (.next (.next (.next (.next (.next (.here))))))))))))))) (.cons (.next (.next (.next (.next (.next (.next (.next (.next (.next (.next (.next (.next (.next (.next (.next (.here)))))))))))))))) (.nil))))))))))))) ?_
              repeat still_step
              refine wpStill_nil ?_
              refine wpAny_ready (rs := [16]) (by kernel_rfl) (by simp) ?_
              refine AllReady.cons rfl (fun K hK => ?_) ?_
              rotate_left
              focus (exact AllReady.nil)
              go_simp
              go_wp2_with (go_at_call 144; refine (HVC.out _ (HM.out.ext ((HS.out.ext.alloc _).drew))).mono ?_; rintro en w2 ⟨rfl, hE2⟩; have hs2 := HS.out.mono (((Ext.refl wr).alloc _).drew.trans hE2); have HS2 := Lib.hid hs2; have z1 := hs2.sets.frozen k; have z2 := hs2.fine.frozen k; have z3 := hs2.sets.cell hlt; have z4 := hs2.fine.cell hlt; have z5 := hs2.sets.lt; have z6 := hs2.fine.lt; clear hs2)
              try (refine hK _ _ ?_)
              refine wpAny_take (i := 17) (v := ?_) rfl (by kernel_rfl) (by kernel_rfl) (by kernel_rfl) (fun _ _ _ h => h) (Or.inl ⟨by rfl, ?_⟩) ?_
              rotate_left
              focus (intro w; go_simp; try with_reducible rfl)
              refine wpAny_take (i := 18) (v := ?_) rfl (by kernel_rfl) (by kernel_rfl) (by kernel_rfl) (fun _ _ _ h => h) (Or.inl ⟨by rfl, ?_⟩) ?_
              rotate_left
              focus (intro w; go_simp; try with_reducible rfl)
              refine wpAny_take (i := 19) (v := ?_) rfl (by kernel_rfl) (by kernel_rfl) (by kernel_rfl) (fun _ _ _ h => h) (Or.inl ⟨by rfl, ?_⟩) ?_
              rotate_left
              focus (intro w; go_simp; try with_reducible rfl)
              refine wpAny_take (i := 20) (v := ?_) rfl (by kernel_rfl) (by kernel_rfl) (by kernel_rfl) (fun _ _ _ h => h) (Or.inl ⟨by rfl, ?_⟩) ?_
              rotate_left
              focus (intro w; go_simp; try with_reducible rfl)
              refine wpAny_of_seqL [21, 22, 23] _ _ _ _ (.cons (.next (.next (.next (.next (.next (.next (.next (.next (.next (.next (.next (.next (.next (.next (.next (.next (.next (.next (.next (.next (.next (.here)))))))))))))))))))))) (.cons (.next (.next (.next (.next (.next (.next (.next (.next (.next (.next (.next (.next (.next (.next (.next (.next (.next (.next (.next (.next (.next (.next (.here))))))))))))))))))))))) (.cons (.next (.next (.next (.next (.next (.next (.next (.next (.next (.next (.next (.next (.next (.next (.next (.next (.next (.next (.next (.next (.next (.next (.next (.here)))))))))))))))))))))))) (.nil)))) (by kernel_rfl) ?_
              go_wp2
              go_roundw
              case rel =>
                exact ⟨k + 1, hlt, by go_num, SetsAt.put HS2.out hgne hlt HV2.out⟩
              case measure => simp [intOf]; omega
      · obtain rfl : k = f.length := by omega
        go_wp2
        go_ret2
        have hs2 := HS.out.sets
        rw [doneL_all] at hs2
        refine ⟨some ⟨g1, 0, none⟩, f.length, ?_, ?_, HE.out.trans HS.out.ext⟩
        · rw [HN.out, HR.out]; simp
        · rw [HN.out]; exact RU_of_OG hs2 hfl
  · have hN : setsOf M f = [] := if_neg h
    have HN := Lib.hid hN
    have hq : (reqErr M f != 0) = true := by simp [h]
    clear hN h
    go_enter Tryz.func99, Tryz.ntmps99
    go_wp2_with (go_at_call 143; refine H.out.mono ?_; rintro e w1 ⟨rfl, hE1⟩)
    go_ret2
    exact ⟨none, 0, by rw [HN.out]; rfl, by rw [HN.out]; exact RU.nil _ _, HE.out.trans hE1⟩
end Wt

/- Walks: checker.Holds, At, Valid. -/
namespace Wt
open Go Go.RowKit Go.Proofs Fm

/-- The set of the whole formula. -/
def lastSet (M : Mo) (f : List Nd) : BitVec 64 := (semT M (trAt f (f.length - 1))).1
def holdsOf (M : Mo) (f : List Nd) : BitVec 64 := if reqErr M f = 0 then lastSet M f else 0#64
def RetP (v : Value) (c : Int) (e : Ending) (w w' : World) : Prop := e = .returned (.tuple #[v, .int .i64 c]) ∧ Ext w w'
set_option maxRecDepth 20000 in
set_option maxHeartbeats 1000000 in
theorem holds_any (M : Mo) (va ra : Option Addr) (vc rc : Nat) (fa : Option Addr) (fc : Nat) (f : List Nd) (w : World) (hm : RM w va ra M) (hf : RN w fa f) :
    Calls Tryz.prog 48 #[.agg #[.int .i64 M.worlds, .slice va M.val.length vc, .slice ra M.rel.length rc], .slice fa f.length fc] w fun e w' => RetP (.int .u64 (un (holdsOf M f))) (reqErr M f) e w w' := by
  have hE0 := (Ext.refl w).alloc (.cells #[.int .i64 M.worlds, .slice va M.val.length vc, .slice ra M.rel.length rc] 28)
  have H := Lib.hid (sets_any M va ra vc rc fa fc f _ (hm.ext hE0) (hf.ext hE0))
  have HE := Lib.hid hE0
  clear hE0 hm hf
  by_cases h : reqErr M f = 0
  · obtain ⟨h1, h2, _, _⟩ := reqErr_ok h
    obtain ⟨hf0, hf200, hw⟩ := fCheck_ok.1 h2
    have hN : holdsOf M f = lastSet M f := if_pos h
    have hS : setsOf M f = (List.range f.length).map (fun k => (semT M (trAt f k)).1) := if_pos h
    have hSl : (setsOf M f).length = f.length := by rw [hS]; simp
    have hSn : nth (setsOf M f) (f.length - 1) = lastSet M f := by
      rw [nth_eq _ _ (by omega)]
      simp [hS, lastSet]
    have HN := Lib.hid hN
    have HR := Lib.hid h
    have HS := Lib.hid hSn
    have HL := Lib.hid hSl
    clear h1 h2 hN h hS hSn hSl hw
    rename_i x1 x2
    clear x1 x2
    have hsub : IntKind.i64.wrap ((f.length : Int) - 1) = ((f.length - 1 : Nat) : Int) := by rw [IntWalk.i64_in _ (by omega)]; omega
    go_enter Tryz.func48, Tryz.ntmps48
    go_wp2_with (go_at_call 99; refine H.out.mono ?_; rintro e w1 ⟨a, c, rfl, hu, hE1⟩; obtain ⟨gb, goff, rfl, hgb, hgc⟩ := hu.get (k := f.length - 1) (by rw [HL.out]; omega); rw [HS.out] at hgc; rw [HL.out, HR.out])
    go_ret2
    exact ⟨by rw [HN.out, HR.out]; rfl, HE.out.trans hE1⟩
  · have hN : holdsOf M f = 0#64 := if_neg h
    have HN := Lib.hid hN
    have hq : (reqErr M f != 0) = true := by simp [h]
    clear hN h
    go_enter Tryz.func48, Tryz.ntmps48
    go_wp2_with (go_at_call 99; refine H.out.mono ?_; rintro e w1 ⟨a, c, rfl, hu, hE1⟩)
    go_ret2
    exact ⟨by rw [HN.out]; rfl, HE.out.trans hE1⟩
/-- Is a world one of a model's? -/
def inMo (M : Mo) (x : Int) : Bool := decide (0 ≤ x ∧ x < M.worlds)
def atErr (M : Mo) (x : Int) (f : List Nd) : Int := if reqErr M f ≠ 0 then reqErr M f else if inMo M x then 0 else 2
def atOf (M : Mo) (x : Int) (f : List Nd) : Bool := atErr M x f == 0 && bt (holdsOf M f) x.toNat
set_option maxRecDepth 20000 in
set_option maxHeartbeats 1000000 in
theorem at_any (M : Mo) (va ra : Option Addr) (vc rc : Nat) (x : Int) (fa : Option Addr) (fc : Nat) (f : List Nd) (w : World) (hm : RM w va ra M) (hf : RN w fa f) :
    Calls Tryz.prog 72 #[.agg #[.int .i64 M.worlds, .slice va M.val.length vc, .slice ra M.rel.length rc], .int .i64 x, .slice fa f.length fc] w fun e w' => RetP (.bool (atOf M x f)) (atErr M x f) e w w' := by
  have hE0 := (Ext.refl w).alloc (.cells #[.int .i64 M.worlds, .slice va M.val.length vc, .slice ra M.rel.length rc] 28)
  have H := Lib.hid (holds_any M va ra vc rc fa fc f _ (hm.ext hE0) (hf.ext hE0))
  obtain ⟨m0, m1, m2⟩ := MoBox.new w M.worlds M.val M.rel va vc ra rc 28
  have HE := Lib.hid hE0
  clear hE0 hm hf
  by_cases h : reqErr M f = 0
  · have HR := Lib.hid h
    by_cases h1 : x < 0
    · have hN : atErr M x f = 2 := by unfold atErr inMo; simp [h]; omega
      have hN2 : atOf M x f = false := by unfold atOf; simp [hN]
      have HN := Lib.hid hN
      have HN2 := Lib.hid hN2
      clear h hN hN2
      go_enter Tryz.func72, Tryz.ntmps72
      go_wp2_with (go_at_call 48; refine H.out.mono ?_; rintro e w1 ⟨rfl, hE1⟩; have q0 := hE1.cell m0; clear m0 m1 m2; rw [HR.out])
      go_ret2
      exact ⟨by rw [HN.out, HN2.out]; rfl, HE.out.trans hE1⟩
    · obtain ⟨k, rfl⟩ := Int.eq_ofNat_of_zero_le (show 0 ≤ x by omega)
      by_cases h2 : (k : Int) < M.worlds
      · have hN : atErr M k f = 0 := by unfold atErr inMo; simp [h]; omega
        have hN2 : atOf M k f = bt (holdsOf M f) k := by unfold atOf; simp [hN]
        have HN := Lib.hid hN
        have HN2 := Lib.hid hN2
        clear h hN hN2
        go_enter Tryz.func72, Tryz.ntmps72
        go_wp2_with (go_at_call 48; refine H.out.mono ?_; rintro e w1 ⟨rfl, hE1⟩; have q0 := hE1.cell m0; clear m0 m1 m2; rw [HR.out])
        go_ret2
        exact ⟨by rw [HN.out, HN2.out]; rfl, HE.out.trans hE1⟩
      · have hN : atErr M k f = 2 := by unfold atErr inMo; simp [h]; omega
        have hN2 : atOf M k f = false := by unfold atOf; simp [hN]
        have HN := Lib.hid hN
        have HN2 := Lib.hid hN2
        clear h hN hN2
        go_enter Tryz.func72, Tryz.ntmps72
        go_wp2_with (go_at_call 48; refine H.out.mono ?_; rintro e w1 ⟨rfl, hE1⟩; have q0 := hE1.cell m0; clear m0 m1 m2; rw [HR.out])
        go_ret2
        exact ⟨by rw [HN.out, HN2.out]; rfl, HE.out.trans hE1⟩
  · have hN : atErr M x f = reqErr M f := if_pos h
    have hN2 : atOf M x f = false := by unfold atOf; simp [hN, h]
    have HN := Lib.hid hN
    have HN2 := Lib.hid hN2
    have hq : (reqErr M f != 0) = true := by simp [h]
    clear hN hN2 h
    go_enter Tryz.func72, Tryz.ntmps72
    go_wp2_with (go_at_call 48; refine H.out.mono ?_; rintro e w1 ⟨rfl, hE1⟩)
    go_ret2
    exact ⟨by rw [HN.out, HN2.out]; rfl, HE.out.trans hE1⟩
def validOf (M : Mo) (f : List Nd) : Bool := reqErr M f == 0 && holdsOf M f == allW M.worlds.toNat
end Wt
