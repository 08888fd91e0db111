/- Formulas: the plain functions that the walks name. -/
import Derived.Test.YtoacdccachhjdaaGreatDoorMAAa
import Derived.Maps.OwnSet
import Derived.Test.YtoacdccachhjdaaGreatDoorProg
namespace Wt
open Go Go.RowKit

structure Use where
  x : Bool
  y : Bool
  fact : Bool
  agent : Bool
  group : Bool
  event : Bool
  frag : Int
  deriving DecidableEq

def useOf (op : Int) : Use × Bool :=
  if op = 1 ∨ op = 2 then (⟨false,false,false,false,false,false,0⟩, true)
  else if op = 3 then (⟨false,false,true,false,false,false,0⟩, true)
  else if op = 4 then (⟨true,false,false,false,false,false,0⟩, true)
  else if op = 5 ∨ op = 6 ∨ op = 7 ∨ op = 8 then (⟨true,true,false,false,false,false,0⟩, true)
  else if op = 9 ∨ op = 10 then (⟨true,false,false,true,false,false,1⟩, true)
  else if op = 11 then (⟨true,false,false,false,true,false,2⟩, true)
  else if op = 12 then (⟨true,false,false,false,true,false,4⟩, true)
  else if op = 13 then (⟨true,true,false,false,true,false,8⟩, true)
  else if op = 14 then (⟨true,true,false,true,false,false,16⟩, true)
  else if op = 15 then (⟨true,false,false,true,false,false,32⟩, true)
  else if op = 16 then (⟨true,true,false,false,false,false,64⟩, true)
  else if op = 17 then (⟨true,false,false,false,false,true,128⟩, true)
  else if op = 18 ∨ op = 20 then (⟨true,false,false,false,false,false,256⟩, true)
  else if op = 19 ∨ op = 21 then (⟨true,true,false,false,false,false,256⟩, true)
  else (⟨false,false,false,false,false,false,0⟩, false)

theorem useOf_cases (op : Int) (h : (useOf op).2 = true) : op = 1 ∨ op = 2 ∨ op = 3 ∨ op = 4 ∨ op = 5 ∨ op = 6 ∨ op = 7 ∨ op = 8 ∨ op = 9 ∨ op = 10 ∨ op = 11 ∨ op = 12 ∨ op = 13 ∨ op = 14 ∨ op = 15 ∨ op = 16 ∨ op = 17 ∨ op = 18 ∨ op = 19 ∨ op = 20 ∨ op = 21 := by
  by_cases h1 : op < 1
  · exfalso
    have : useOf op = (⟨false,false,false,false,false,false,0⟩, false) := by
      unfold useOf
      repeat rw [if_neg (by omega)]
    rw [this] at h; cases h
  · by_cases h2 : 21 < op
    · exfalso
      have : useOf op = (⟨false,false,false,false,false,false,0⟩, false) := by
        unfold useOf
        repeat rw [if_neg (by omega)]
      rw [this] at h; cases h
    · omega
theorem useOf_no (op : Int) (h : ¬ (useOf op).2 = true) : useOf op = (⟨false,false,false,false,false,false,0⟩, false) := by
  have : op < 1 ∨ 21 < op := by
    by_cases h1 : op < 1
    · exact .inl h1
    · by_cases h2 : 21 < op
      · exact .inr h2
      · exfalso
        have : op = 1 ∨ op = 2 ∨ op = 3 ∨ op = 4 ∨ op = 5 ∨ op = 6 ∨ op = 7 ∨ op = 8 ∨ op = 9 ∨ op = 10 ∨ op = 11 ∨ op = 12 ∨ op = 13 ∨ op = 14 ∨ op = 15 ∨ op = 16 ∨ op = 17 ∨ op = 18 ∨ op = 19 ∨ op = 20 ∨ op = 21 := by omega
        rcases this with rfl | rfl | rfl | rfl | rfl | rfl | rfl | rfl | rfl | rfl | rfl | rfl | rfl | rfl | rfl | rfl | rfl | rfl | rfl | rfl | rfl <;> exact h rfl
  unfold useOf
  repeat rw [if_neg (by omega)]

theorem useOf_pat (op : Int) (h : (useOf op).2 = true) : ∃ fr : Int, useOf op = (⟨false,false,false,false,false,false,fr⟩, true) ∨ useOf op = (⟨false,false,true,false,false,false,fr⟩, true)
    ∨ useOf op = (⟨true,false,false,false,false,false,fr⟩, true) ∨ useOf op = (⟨true,true,false,false,false,false,fr⟩, true) ∨ useOf op = (⟨true,false,false,true,false,false,fr⟩, true)
    ∨ useOf op = (⟨true,false,false,false,true,false,fr⟩, true) ∨ useOf op = (⟨true,true,false,false,true,false,fr⟩, true) ∨ useOf op = (⟨true,true,false,true,false,false,fr⟩, true)
    ∨ useOf op = (⟨true,false,false,false,false,true,fr⟩, true) := by
  refine ⟨(useOf op).1.frag, ?_⟩
  rcases useOf_cases op h with rfl | rfl | rfl | rfl | rfl | rfl | rfl | rfl | rfl | rfl | rfl | rfl | rfl | rfl | rfl | rfl | rfl | rfl | rfl | rfl | rfl <;> decide

/-- Is a field right for an operand that is used or not? -/
def opnd (used : Bool) (f a : Int) : Bool := if used then decide (0 ≤ f ∧ f < a) else f == 0
/-- Is a number outside of a range, if it is used? -/
def outs (used : Bool) (v lo hi : Int) : Bool := used && decide (v < lo ∨ hi < v)
theorem opnd_f (f a : Int) : opnd false f a = (f == 0) := rfl
theorem opnd_t (f a : Int) : opnd true f a = decide (0 ≤ f ∧ f < a) := rfl
theorem outs_f (v lo hi : Int) : outs false v lo hi = false := rfl
theorem outs_t (v lo hi : Int) : outs true v lo hi = decide (v < lo ∨ hi < v) := rfl
def needless (u : Use) (n : Nd) : Bool := (!(u.fact || u.agent || u.event) && n.i != 0) || (!u.event && n.e != 0) || (!u.group && n.g != 0)
def wide (u : Use) (n : Nd) : Bool := outs u.fact n.i 0 7 || outs u.agent n.i 0 3 || outs u.event n.i 0 7 || outs u.event n.e 0 7 || outs u.group n.g 1 15
/-- The error of a node at a place. -/
def nodeErr (n : Nd) (a : Int) : Int :=
  if (useOf n.op).2 = false then 10
  else if (opnd (useOf n.op).1.x n.x a && opnd (useOf n.op).1.y n.y a) = false then 3
  else if needless (useOf n.op).1 n = true then 3
  else if wide (useOf n.op).1 n = true then 2
  else 0
theorem nodeErr_of (n : Nd) (a : Int) (u : Use) (h : useOf n.op = (u, true)) : nodeErr n a =
    if (opnd u.x n.x a && opnd u.y n.y a) = false then 3 else if needless u n = true then 3 else if wide u n = true then 2 else 0 := by
  unfold nodeErr; rw [h]; rfl
theorem nodeErr_no (n : Nd) (a : Int) (h : (useOf n.op).2 = false) : nodeErr n a = 10 := by
  unfold nodeErr; rw [if_pos h]
/-- The first error of the nodes from a place on. -/
def errFrom (l : List Nd) : Nat → Nat → Int
  | 0, _ => 0
  | f + 1, k => if nodeErr (nth l k) k ≠ 0 then nodeErr (nth l k) k else errFrom l f (k + 1)
/-- The error of a formula. -/
def fCheck (l : List Nd) : Int :=
  if l.length = 0 then 3 else if 200 < l.length then 8 else errFrom l l.length 0
end Wt

/- Formulas as trees, and canonical lists of them: plain laws. -/
namespace Wt
open Go Go.RowKit

/-- A formula as a tree. -/
inductive Fm where
  | leaf (op i e g : Int)
  | un (op i e g : Int) (x : Fm)
  | bin (op i e g : Int) (x y : Fm)
  deriving DecidableEq, Inhabited

namespace Fm
def op : Fm → Int | leaf o _ _ _ | un o _ _ _ _ | bin o _ _ _ _ _ => o
def size : Fm → Nat | leaf .. => 1 | un _ _ _ _ x => x.size + 1 | bin _ _ _ _ x y => x.size + y.size + 1
/-- Is a tree below another one, as an operand? -/
def kid (c : Fm) : Fm → Prop | leaf .. => False | un _ _ _ _ x => c = x | bin _ _ _ _ x y => c = x ∨ c = y
theorem size_pos (t : Fm) : 0 < t.size := by cases t <;> simp [size]
theorem kid_size {c t : Fm} (h : kid c t) : c.size < t.size := by
  cases t <;> simp [kid, size] at *
  · subst h; omega
  · rcases h with rfl | rfl <;> omega
end Fm
open Fm

/-- Is every node of a list right? -/
def Wf (l : List Nd) : Prop := ∀ k, k < l.length → nodeErr (nth l k) k = 0
/-- The tree at a node. -/
def tr : Nat → List Nd → Nat → Fm
  | 0, _, _ => .leaf 0 0 0 0
  | n + 1, l, k =>
    if (useOf (nth l k).op).1.x then
      if (useOf (nth l k).op).1.y then .bin (nth l k).op (nth l k).i (nth l k).e (nth l k).g (tr n l (nth l k).x.toNat) (tr n l (nth l k).y.toNat)
      else .un (nth l k).op (nth l k).i (nth l k).e (nth l k).g (tr n l (nth l k).x.toNat)
    else .leaf (nth l k).op (nth l k).i (nth l k).e (nth l k).g
def trAt (l : List Nd) (k : Nat) : Fm := tr (k + 1) l k

theorem nodeErr_ok {n : Nd} {a : Int} (h : nodeErr n a = 0) : (useOf n.op).2 = true ∧ opnd (useOf n.op).1.x n.x a = true ∧ opnd (useOf n.op).1.y n.y a = true ∧ needless (useOf n.op).1 n = false ∧ wide (useOf n.op).1 n = false := by
  unfold nodeErr at h
  by_cases h1 : (useOf n.op).2 = false
  · rw [if_pos h1] at h; omega
  · rw [if_neg h1] at h
    by_cases h2 : (opnd (useOf n.op).1.x n.x a && opnd (useOf n.op).1.y n.y a) = false
    · rw [if_pos h2] at h; omega
    · rw [if_neg h2] at h
      by_cases h3 : needless (useOf n.op).1 n = true
      · rw [if_pos h3] at h; omega
      · rw [if_neg h3] at h
        by_cases h4 : wide (useOf n.op).1 n = true
        · rw [if_pos h4] at h; omega
        · simp at h1 h2 h3 h4
          exact ⟨h1, h2.1, h2.2, h3, h4⟩
theorem nodeErr_zero {n : Nd} {a : Int} (h1 : (useOf n.op).2 = true) (h2 : opnd (useOf n.op).1.x n.x a = true) (h3 : opnd (useOf n.op).1.y n.y a = true) (h4 : needless (useOf n.op).1 n = false) (h5 : wide (useOf n.op).1 n = false) : nodeErr n a = 0 := by
  unfold nodeErr; simp [h1, h2, h3, h4, h5]
/-- An operator that uses Y uses X. -/
theorem useOf_yx (op : Int) (h : (useOf op).1.y = true) : (useOf op).1.x = true := by
  by_cases ho : (useOf op).2 = true
  · obtain ⟨fr, h' | h' | h' | h' | h' | h' | h' | h' | h'⟩ := useOf_pat op ho <;> rw [h'] at h ⊢ <;> simp_all
  · rw [useOf_no op ho] at h; cases h
section
variable {l : List Nd} (hw : Wf l)
include hw
theorem Wf.x_lt {k : Nat} (hk : k < l.length) (hx : (useOf (nth l k).op).1.x = true) : 0 ≤ (nth l k).x ∧ (nth l k).x.toNat < k := by
  have := (nodeErr_ok (hw k hk)).2.1
  rw [hx] at this
  simp [opnd] at this
  omega
theorem Wf.y_lt {k : Nat} (hk : k < l.length) (hy : (useOf (nth l k).op).1.y = true) : 0 ≤ (nth l k).y ∧ (nth l k).y.toNat < k := by
  have := (nodeErr_ok (hw k hk)).2.2.1
  rw [hy] at this
  simp [opnd] at this
  omega
theorem Wf.x_zero {k : Nat} (hk : k < l.length) (hx : (useOf (nth l k).op).1.x = false) : (nth l k).x = 0 := by
  have := (nodeErr_ok (hw k hk)).2.1
  rw [hx] at this
  simpa [opnd] using this
theorem Wf.y_zero {k : Nat} (hk : k < l.length) (hy : (useOf (nth l k).op).1.y = false) : (nth l k).y = 0 := by
  have := (nodeErr_ok (hw k hk)).2.2.1
  rw [hy] at this
  simpa [opnd] using this
theorem tr_fuel : ∀ (n m k : Nat), k < l.length → k < n → k < m → tr n l k = tr m l k
  | 0, _, _, _, h, _ => absurd h (Nat.not_lt_zero _)
  | _, 0, _, _, _, h => absurd h (Nat.not_lt_zero _)
  | n + 1, m + 1, k, hk, hn, hm => by
    unfold tr
    by_cases hx : (useOf (nth l k).op).1.x = true
    · obtain ⟨h0, h1⟩ := hw.x_lt hk hx
      rw [if_pos hx, if_pos hx]
      by_cases hy : (useOf (nth l k).op).1.y = true
      · obtain ⟨h2, h3⟩ := hw.y_lt hk hy
        rw [if_pos hy, if_pos hy, tr_fuel n m _ (by omega) (by omega) (by omega), tr_fuel n m _ (by omega) (by omega) (by omega)]
      · rw [if_neg hy, if_neg hy, tr_fuel n m _ (by omega) (by omega) (by omega)]
    · rw [if_neg hx, if_neg hx]
omit hw in
theorem trAt_leaf {k : Nat} (_hk : k < l.length) (hx : (useOf (nth l k).op).1.x = false) : trAt l k = .leaf (nth l k).op (nth l k).i (nth l k).e (nth l k).g := by
  unfold trAt tr; rw [hx]; rfl
theorem trAt_un {k : Nat} (hk : k < l.length) (hx : (useOf (nth l k).op).1.x = true) (hy : (useOf (nth l k).op).1.y = false) :
    trAt l k = .un (nth l k).op (nth l k).i (nth l k).e (nth l k).g (trAt l (nth l k).x.toNat) := by
  obtain ⟨h0, h1⟩ := hw.x_lt hk hx
  show tr (k + 1) l k = _
  unfold tr; rw [hx, hy]
  simp only [if_true, Bool.false_eq_true, if_false]
  rw [tr_fuel hw k ((nth l k).x.toNat + 1) _ (by omega) (by omega) (by omega)]
  rfl
theorem trAt_bin {k : Nat} (hk : k < l.length) (hy : (useOf (nth l k).op).1.y = true) :
    trAt l k = .bin (nth l k).op (nth l k).i (nth l k).e (nth l k).g (trAt l (nth l k).x.toNat) (trAt l (nth l k).y.toNat) := by
  have hx := useOf_yx _ hy
  obtain ⟨h0, h1⟩ := hw.x_lt hk hx
  obtain ⟨h2, h3⟩ := hw.y_lt hk hy
  show tr (k + 1) l k = _
  unfold tr; rw [hx, hy]
  simp only [if_true]
  rw [tr_fuel hw k ((nth l k).x.toNat + 1) _ (by omega) (by omega) (by omega), tr_fuel hw k ((nth l k).y.toNat + 1) _ (by omega) (by omega) (by omega)]
  rfl
end

/-- Is a tree built as the operators ask? -/
def fok : Fm → Prop
  | .leaf o i e g => (useOf o).2 = true ∧ (useOf o).1.x = false ∧ needless (useOf o).1 ⟨o, i, e, g, 0, 0⟩ = false ∧ wide (useOf o).1 ⟨o, i, e, g, 0, 0⟩ = false
  | .un o i e g x => (useOf o).2 = true ∧ (useOf o).1.x = true ∧ (useOf o).1.y = false ∧ needless (useOf o).1 ⟨o, i, e, g, 0, 0⟩ = false ∧ wide (useOf o).1 ⟨o, i, e, g, 0, 0⟩ = false ∧ fok x
  | .bin o i e g x y => (useOf o).2 = true ∧ (useOf o).1.y = true ∧ needless (useOf o).1 ⟨o, i, e, g, 0, 0⟩ = false ∧ wide (useOf o).1 ⟨o, i, e, g, 0, 0⟩ = false ∧ fok x ∧ fok y
theorem fok_kid {c t : Fm} (h : fok t) (hk : kid c t) : fok c := by
  cases t <;> simp only [kid] at hk
  · subst hk; exact h.2.2.2.2.2
  · rcases hk with rfl | rfl
    · exact h.2.2.2.2.1
    · exact h.2.2.2.2.2
theorem fok_trAt {l : List Nd} (hw : Wf l) : ∀ (n k : Nat), k < n → k < l.length → fok (trAt l k)
  | 0, _, h, _ => absurd h (Nat.not_lt_zero _)
  | n + 1, k, hn, hk => by
    obtain ⟨h1, _, _, h4, h5⟩ := nodeErr_ok (hw k hk)
    by_cases hx : (useOf (nth l k).op).1.x = true
    · obtain ⟨_, hxl⟩ := hw.x_lt hk hx
      by_cases hy : (useOf (nth l k).op).1.y = true
      · obtain ⟨_, hyl⟩ := hw.y_lt hk hy
        rw [trAt_bin hw hk hy]
        exact ⟨h1, hy, h4, h5, fok_trAt hw n _ (by omega) (by omega), fok_trAt hw n _ (by omega) (by omega)⟩
      · rw [trAt_un hw hk hx (by simpa using hy)]
        exact ⟨h1, hx, by simpa using hy, h4, h5, fok_trAt hw n _ (by omega) (by omega)⟩
    · rw [trAt_leaf hk (by simpa using hx)]
      exact ⟨h1, by simpa using hx, h4, h5⟩

/-! Lists of different trees, operands first. -/
def put (t : Fm) (L : List Fm) : List Fm := if t ∈ L then L else L ++ [t]
def addT : Fm → List Fm → List Fm
  | .leaf o i e g, L => put (.leaf o i e g) L
  | .un o i e g x, L => put (.un o i e g x) (addT x L)
  | .bin o i e g x y, L => put (.bin o i e g x y) (addT y (addT x L))
theorem put_mem (t : Fm) (L : List Fm) : t ∈ put t L := by unfold put; split <;> simp_all
theorem addT_mem (t : Fm) (L : List Fm) : t ∈ addT t L := by cases t <;> exact put_mem _ _
theorem put_pre (t : Fm) (L : List Fm) : ∃ M, put t L = L ++ M := by
  unfold put; split
  · exact ⟨[], by simp⟩
  · exact ⟨[t], rfl⟩
theorem addT_pre : ∀ (t : Fm) (L : List Fm), ∃ M, addT t L = L ++ M
  | .leaf o i e g, L => put_pre _ _
  | .un o i e g x, L => by
    obtain ⟨M, hM⟩ := addT_pre x L
    obtain ⟨M2, hM2⟩ := put_pre (.un o i e g x) (addT x L)
    exact ⟨M ++ M2, by show put _ _ = _; rw [hM2, hM, List.append_assoc]⟩
  | .bin o i e g x y, L => by
    obtain ⟨M, hM⟩ := addT_pre x L
    obtain ⟨M1, hM1⟩ := addT_pre y (addT x L)
    obtain ⟨M2, hM2⟩ := put_pre (.bin o i e g x y) (addT y (addT x L))
    exact ⟨M ++ (M1 ++ M2), by show put _ _ = _; rw [hM2, hM1, hM, List.append_assoc, List.append_assoc]⟩
theorem addT_sub {t : Fm} {L : List Fm} {s : Fm} (h : s ∈ L) : s ∈ addT t L := by
  obtain ⟨M, hM⟩ := addT_pre t L
  rw [hM]; simp [h]
/-- The operands of each tree stand before it. -/
def Cl (L : List Fm) : Prop := ∀ k (hk : k < L.length) c, kid c L[k] → ∃ j, ∃ hj : j < k, L[j]'(Nat.lt_trans hj hk) = c
theorem Cl.kid {L : List Fm} (h : Cl L) {t c : Fm} (ht : t ∈ L) (hk : kid c t) : c ∈ L := by
  obtain ⟨k, hkl, rfl⟩ := List.mem_iff_getElem.1 ht
  obtain ⟨j, hj, rfl⟩ := h k hkl c hk
  exact List.getElem_mem _
theorem Cl.nil : Cl [] := fun _ hk => absurd hk (by simp)
theorem Cl.put {L : List Fm} (h : Cl L) {t : Fm} (hk : ∀ c, Fm.kid c t → c ∈ L) : Cl (put t L) := by
  unfold Wt.put
  split
  · exact h
  · intro k hkl c hc
    rw [List.length_append] at hkl
    simp at hkl
    by_cases e : k < L.length
    · rw [List.getElem_append_left e] at hc
      obtain ⟨j, hj, he⟩ := h k e c hc
      exact ⟨j, hj, by rw [List.getElem_append_left (by omega)]; exact he⟩
    · have e2 : k = L.length := by omega
      subst e2
      rw [List.getElem_append_right (Nat.le_refl _)] at hc
      simp at hc
      obtain ⟨j, hj, he⟩ := List.mem_iff_getElem.1 (hk c hc)
      exact ⟨j, hj, by rw [List.getElem_append_left hj]; exact he⟩
theorem Cl.addT : ∀ (t : Fm) {L : List Fm}, Cl L → Cl (addT t L)
  | .leaf o i e g, L, h => h.put (fun c hc => hc.elim)
  | .un o i e g x, L, h => (Cl.addT x h).put (fun c hc => by rw [show c = x from hc]; exact addT_mem _ _)
  | .bin o i e g x y, L, h => (Cl.addT y (Cl.addT x h)).put (fun c hc => by
      rcases (show c = x ∨ c = y from hc) with rfl | rfl
      · exact addT_sub (addT_mem _ _)
      · exact addT_mem _ _)
theorem Cl.snoc' {L : List Fm} (h : Cl L) {t : Fm} (hn : t ∉ L) (hk : ∀ c, Fm.kid c t → c ∈ L) : Cl (L ++ [t]) := by
  have := h.put hk
  unfold Wt.put at this; rw [if_neg hn] at this; exact this
theorem put_of_mem {t : Fm} {L : List Fm} (h : t ∈ L) : put t L = L := if_pos h
theorem addT_of_mem : ∀ (t : Fm) {L : List Fm}, Cl L → t ∈ L → addT t L = L
  | .leaf o i e g, L, _, h => put_of_mem h
  | .un o i e g x, L, hc, h => by
    have hx : x ∈ L := hc.kid h rfl
    show put _ (addT x L) = L
    rw [addT_of_mem x hc hx, put_of_mem h]
  | .bin o i e g x y, L, hc, h => by
    have hx : x ∈ L := hc.kid h (.inl rfl)
    have hy : y ∈ L := hc.kid h (.inr rfl)
    show put _ (addT y (addT x L)) = L
    rw [addT_of_mem x hc hx, addT_of_mem y hc hy, put_of_mem h]
theorem put_nodup {t : Fm} {L : List Fm} (h : L.Nodup) : (put t L).Nodup := by
  unfold put; split
  · exact h
  · rename_i hn
    rw [List.nodup_append]
    exact ⟨h, by simp, fun a ha b hb => by simp at hb; subst hb; rintro rfl; exact hn ha⟩
theorem addT_nodup : ∀ (t : Fm) {L : List Fm}, L.Nodup → (addT t L).Nodup
  | .leaf .., _, h => put_nodup h
  | .un _ _ _ _ x, _, h => put_nodup (addT_nodup x h)
  | .bin _ _ _ _ x y, _, h => put_nodup (addT_nodup y (addT_nodup x h))
/-- All trees of a list are built as the operators ask. -/
def AllOk (L : List Fm) : Prop := ∀ t ∈ L, fok t
theorem AllOk.put {L : List Fm} (h : AllOk L) {t : Fm} (ht : fok t) : AllOk (put t L) := by
  unfold Wt.put; split
  · exact h
  · intro s hs
    simp at hs
    rcases hs with hs | rfl
    · exact h s hs
    · exact ht
theorem AllOk.addT : ∀ (t : Fm) {L : List Fm}, AllOk L → fok t → AllOk (addT t L)
  | .leaf .., _, h, ht => h.put ht
  | .un _ _ _ _ x, _, h, ht => (AllOk.addT x h (fok_kid ht rfl)).put ht
  | .bin _ _ _ _ x y, _, h, ht => (AllOk.addT y (AllOk.addT x h (fok_kid ht (.inl rfl))) (fok_kid ht (.inr rfl))).put ht

/-! The nodes of such a list. -/
def idx (L : List Fm) (t : Fm) : Nat := L.idxOf t
def ndOf (L : List Fm) : Fm → Nd
  | .leaf o i e g => ⟨o, i, e, g, 0, 0⟩
  | .un o i e g x => ⟨o, i, e, g, idx L x, 0⟩
  | .bin o i e g x y => ⟨o, i, e, g, idx L x, idx L y⟩
def encL (L : List Fm) : List Nd := L.map (ndOf L)
@[simp] theorem encL_length (L : List Fm) : (encL L).length = L.length := by simp [encL]
theorem idx_lt {L : List Fm} {t : Fm} (h : t ∈ L) : idx L t < L.length := List.idxOf_lt_length_of_mem h
theorem getElem_idx {L : List Fm} {t : Fm} (h : t ∈ L) : L[idx L t]'(idx_lt h) = t := List.getElem_idxOf (idx_lt h)
theorem idx_append {L M : List Fm} {t : Fm} (h : t ∈ L) : idx (L ++ M) t = idx L t := by
  unfold idx; rw [List.idxOf_append]; simp [h]
theorem idx_new {L : List Fm} {t : Fm} (h : t ∉ L) : idx (L ++ [t]) t = L.length := by
  unfold idx; rw [List.idxOf_append]; simp [h]
theorem idx_getElem {L : List Fm} (h : L.Nodup) {k : Nat} (hk : k < L.length) : idx L L[k] = k := by
  exact h.idxOf_getElem k hk
theorem idx_inj {L : List Fm} {s t : Fm} (hs : s ∈ L) (ht : t ∈ L) (h : idx L s = idx L t) : s = t := by
  have e1 := getElem_idx hs
  have e2 := getElem_idx ht
  rw [← e1, ← e2]; simp only [h]
theorem ndOf_append {L M : List Fm} {t : Fm} (h : ∀ c, kid c t → c ∈ L) : ndOf (L ++ M) t = ndOf L t := by
  cases t with
  | leaf => rfl
  | un o i e g x => simp only [ndOf]; rw [idx_append (h x rfl)]
  | bin o i e g x y => simp only [ndOf]; rw [idx_append (h x (.inl rfl)), idx_append (h y (.inr rfl))]
theorem encL_append {L M : List Fm} (hc : Cl L) : encL (L ++ M) = encL L ++ M.map (ndOf (L ++ M)) := by
  unfold encL
  rw [List.map_append]
  congr 1
  refine List.map_congr_left fun t ht => ndOf_append (fun c hk => hc.kid ht hk)
theorem encL_snoc {L : List Fm} (hc : Cl L) {t : Fm} (hk : ∀ c, kid c t → c ∈ L) : encL (L ++ [t]) = encL L ++ [ndOf L t] := by
  rw [encL_append hc]; simp [ndOf_append hk]
theorem ndOf_inj {L : List Fm} {s t : Fm} (hs : fok s) (ht : fok t) (hks : ∀ c, kid c s → c ∈ L) (hkt : ∀ c, kid c t → c ∈ L) (h : ndOf L s = ndOf L t) : s = t := by
  cases s with
  | leaf o i e g =>
    cases t with
    | leaf => simp only [ndOf, Nd.mk.injEq] at h; obtain ⟨rfl, rfl, rfl, rfl, _⟩ := h; rfl
    | un => simp only [ndOf, Nd.mk.injEq] at h; obtain ⟨rfl, _⟩ := h; have a := hs.2.1; have b := ht.2.1; rw [a] at b; cases b
    | bin => simp only [ndOf, Nd.mk.injEq] at h; obtain ⟨rfl, _⟩ := h; have a := hs.2.1; have b := useOf_yx _ ht.2.1; rw [a] at b; cases b
  | un o i e g x =>
    cases t with
    | leaf => simp only [ndOf, Nd.mk.injEq] at h; obtain ⟨rfl, _⟩ := h; have a := hs.2.1; have b := ht.2.1; rw [a] at b; cases b
    | un o' i' e' g' x' =>
      simp only [ndOf, Nd.mk.injEq] at h
      obtain ⟨rfl, rfl, rfl, rfl, h1, _⟩ := h
      rw [idx_inj (hks x rfl) (hkt x' rfl) (by omega)]
    | bin => simp only [ndOf, Nd.mk.injEq] at h; obtain ⟨rfl, _⟩ := h; have a := hs.2.2.1; have b := ht.2.1; rw [a] at b; cases b
  | bin o i e g x y =>
    cases t with
    | leaf => simp only [ndOf, Nd.mk.injEq] at h; obtain ⟨rfl, _⟩ := h; have a := useOf_yx _ hs.2.1; have b := ht.2.1; rw [a] at b; cases b
    | un => simp only [ndOf, Nd.mk.injEq] at h; obtain ⟨rfl, _⟩ := h; have a := hs.2.1; have b := ht.2.2.1; rw [a] at b; cases b
    | bin o' i' e' g' x' y' =>
      simp only [ndOf, Nd.mk.injEq] at h
      obtain ⟨rfl, rfl, rfl, rfl, h1, h2⟩ := h
      rw [idx_inj (hks x (.inl rfl)) (hkt x' (.inl rfl)) (by omega), idx_inj (hks y (.inr rfl)) (hkt y' (.inr rfl)) (by omega)]
theorem mem_encL {L : List Fm} (ho : AllOk L) (hc : Cl L) {t : Fm} (ht : fok t) (hk : ∀ c, kid c t → c ∈ L) : ndOf L t ∈ encL L ↔ t ∈ L := by
  unfold encL
  rw [List.mem_map]
  constructor
  · rintro ⟨s, hs, he⟩
    rw [← ndOf_inj (ho s hs) ht (fun c h => hc.kid hs h) hk he]; exact hs
  · intro h; exact ⟨t, h, rfl⟩
theorem encL_get {L : List Fm} {k : Nat} (hk : k < L.length) : (encL L)[k]'(by simpa using hk) = ndOf L L[k] := by simp [encL]
theorem idxOf_encL {L : List Fm} (hn : L.Nodup) (ho : AllOk L) (hc : Cl L) {t : Fm} (ht : t ∈ L) : (encL L).idxOf (ndOf L t) = idx L t := by
  have h1 : ndOf L t ∈ encL L := List.mem_map.2 ⟨t, ht, rfl⟩
  have h2 := List.idxOf_lt_length_of_mem h1
  have h3 : (encL L)[(encL L).idxOf (ndOf L t)] = ndOf L t := List.getElem_idxOf h2
  have h4 : (encL L).idxOf (ndOf L t) < L.length := by simpa using h2
  rw [encL_get h4] at h3
  have h5 : L[(encL L).idxOf (ndOf L t)] = t := ndOf_inj (ho _ (List.getElem_mem h4)) (ho _ ht) (fun c h => hc.kid (List.getElem_mem h4) h) (fun c h => hc.kid ht h) h3
  have h6 := idx_getElem hn h4
  rw [h5] at h6
  exact h6.symm
/-- The canonical list of a tree. -/
def canon (t : Fm) : List Nd := encL (addT t [])
/-- How many different formulas are in a tree. -/
def fsize (t : Fm) : Nat := (addT t []).length
@[simp] theorem canon_length (t : Fm) : (canon t).length = fsize t := encL_length _
end Wt

/- Maps that a call makes and fills with new keys: laws of our own over 'Keyed'. -/
namespace Wt
open Go Go.RowKit Go.Maps

section
variable {α : Type} (good : α → Prop) (enc : α → Value)
/-- Block b is a map that holds for each key a the number f a, and nothing else. -/
def MapOn (w : World) (b : Nat) (f : α → Option Int) : Prop :=
  ∃ arr clock, w.heap[b]? = some (.map arr clock) ∧ (∀ e ∈ arr.toList, ∃ a n, e.key = enc a ∧ good a ∧ e.val = .int .i64 n ∧ f a = some n) ∧
    (∀ a n, f a = some n → ∃ e ∈ arr.toList, e.key = enc a)
variable {good enc}
theorem MapOn.lt {w : World} {b : Nat} {f : α → Option Int} (h : MapOn good enc w b f) : b < w.heap.size := by
  obtain ⟨arr, clock, hb, _⟩ := h
  exact (Array.getElem?_eq_some_iff.1 hb).1
theorem MapOn.kept {w w' : World} {b : Nat} {f : α → Option Int} (h : MapOn good enc w b f) (hb : w'.heap[b]? = w.heap[b]?) : MapOn good enc w' b f := by
  obtain ⟨arr, clock, h1, h2⟩ := h
  exact ⟨arr, clock, hb.trans h1, h2⟩
theorem MapOn.made (w : World) : MapOn good enc (w.alloc (.map #[] 0)) w.heap.size (fun _ => none) :=
  ⟨#[], 0, (MapKept.heap_alloc w _).1, by simp, by simp⟩
theorem MapOn.look {P : Program} {k t e : TypeId} {w : World} {b : Nat} {f : α → Option Int} (h : MapOn good enc w b f) (K : Keyed P k) (ht : P.underlying t = some (.map k e))
    (hz : (zeroValue e).run P w = .ok (.int .i64 0) w) (hinj : ∀ a a', enc a = enc a' → a = a') (hg : ∀ a, good a → ∃ l, keyOf P k (enc a) = some l) (a : α) (ha : good a) :
    (Instr.lookup t (.map (some b)) (enc a) true).run P w = .ok (.tuple #[.int .i64 ((f a).getD 0), .bool (f a).isSome]) w := by
  obtain ⟨arr, clock, hb, h1, h2⟩ := h
  obtain ⟨l, hl⟩ := hg a ha
  have hfind := K.find w hl arr.toList (fun e he => by
    obtain ⟨a', n, hk, hga, _⟩ := h1 e he
    obtain ⟨l', hl'⟩ := hg a' hga
    exact ⟨l', by rw [hk]; exact hl'⟩)
  have hck := K.check w arr.isEmpty hl
  rcases hfind with ⟨hr, hno⟩ | ⟨j, e0, hr, hj, hke⟩
  · have hf : f a = none := by
      cases hfa : f a with
      | none => rfl
      | some n =>
        obtain ⟨e1, he1, hk1⟩ := h2 a n hfa
        exact absurd hk1 (hno e1 he1)
    simp [Instr.lookup, run_underlying ht, MapKept.run_getObj_map hb, hck, hr, hz, hf, Result.andThen]
  · obtain ⟨a', n, hk, _, hv, hfa⟩ := h1 e0 (List.mem_of_getElem? hj)
    have : a' = a := hinj _ _ (hk.symm.trans hke)
    subst this
    simp [Instr.lookup, run_underlying ht, MapKept.run_getObj_map hb, hck, hr, hv, hfa, Result.andThen]
theorem MapOn.ins {P : Program} {k t e : TypeId} {w : World} {b : Nat} {f : α → Option Int} [DecidableEq α] (h : MapOn good enc w b f) (K : Keyed P k) (ht : P.underlying t = some (.map k e))
    (hg : ∀ a, good a → ∃ l, keyOf P k (enc a) = some l) (hinj : ∀ a a', enc a = enc a' → a = a') (a : α) (ha : good a) (hf : f a = none) (n : Int) :
    ∃ w', (Instr.mapUpdate t (.map (some b)) (enc a) (.int .i64 n)).run P w = .ok () w' ∧ MapOn good enc w' b (fun x => if x = a then some n else f x) ∧ w.grownBy w' (some b) := by
  obtain ⟨arr, clock, hb, h1, h2⟩ := h
  obtain ⟨l, hl⟩ := hg a ha
  have hfind := K.find w hl arr.toList (fun e he => by
    obtain ⟨a', n, hk, hga, _⟩ := h1 e he
    obtain ⟨l', hl'⟩ := hg a' hga
    exact ⟨l', by rw [hk]; exact hl'⟩)
  have hck := K.check w false hl
  rcases hfind with ⟨hr, hno⟩ | ⟨j, e0, hr, hj, hke⟩
  · refine ⟨ChangeMaps.setBlock w b (.map (arr.push ⟨enc a, .int .i64 n, clock⟩) (clock + 1)), ?_, ⟨arr.push ⟨enc a, .int .i64 n, clock⟩, clock + 1, ChangeMaps.heap_setBlock_same hb _, ?_, ?_⟩, ⟨rfl, rfl, rfl, by simp [ChangeMaps.setBlock], fun i _ hi => ChangeMaps.heap_setBlock_other hb _ (fun e => hi (by rw [e]))⟩⟩
    · simp [Instr.mapUpdate, run_underlying ht, MapKept.run_getObj_map hb, hck, hr, Result.andThen, MapKept.run_setObj_map _ hb, ChangeMaps.setBlock]
    · intro e he
      simp only [Array.toList_push, List.mem_append, List.mem_singleton] at he
      rcases he with he | rfl
      · obtain ⟨a', n', hk, hga, hv, hfa⟩ := h1 e he
        refine ⟨a', n', hk, hga, hv, ?_⟩
        have : a' ≠ a := by rintro rfl; rw [hf] at hfa; cases hfa
        show (if a' = a then some n else f a') = some n'
        rw [if_neg this]; exact hfa
      · exact ⟨a, n, rfl, ha, rfl, if_pos rfl⟩
    · intro a' n' hfa
      by_cases e1 : a' = a
      · subst e1; exact ⟨⟨enc a', .int .i64 n, clock⟩, by simp, rfl⟩
      · have hfa : (if a' = a then some n else f a') = some n' := hfa
        rw [if_neg e1] at hfa
        obtain ⟨e2, he2, hk2⟩ := h2 a' n' hfa
        exact ⟨e2, by simp [he2], hk2⟩
  · exfalso
    obtain ⟨a', n', hk, _, hv, hfa⟩ := h1 e0 (List.mem_of_getElem? hj)
    have : a' = a := hinj _ _ (hk.symm.trans hke)
    subst this
    rw [hf] at hfa; cases hfa
end
end Wt

/- Walks: formula.uses, operand, nodeError, Check. -/
namespace Wt
open Go Go.RowKit Go.Proofs

set_option maxHeartbeats 1000000 in
theorem uses_any (op : Int) (u : Use) (ok : Bool) (h : useOf op = (u, ok)) (w : World) :
    Calls Tryz.prog 123 #[.int .i64 op] w fun e w' =>
      e = .returned (.tuple #[.agg #[.bool u.x, .bool u.y, .bool u.fact, .bool u.agent, .bool u.group, .bool u.event, .int .i64 u.frag], .bool ok]) ∧ Ext w w' := by
  have H := Lib.hid h
  clear h
  go_enter Tryz.func123, Tryz.ntmps123
  go_wp2
  all_goals
    have h := H.out
    simp only [beq_iff_eq, beq_eq_false_iff_ne] at *
    (try subst op)
    first
      | (simp [useOf] at h; obtain ⟨rfl, rfl⟩ := h
         refine bodyPost_ret (v := .tuple #[.agg #[.bool _, .bool _, .bool _, .bool _, .bool _, .bool _, .int .i64 _], .bool _]) (by simp [results, Tryz.results123, go_sem]) rfl ⟨rfl, (Ext.refl _).alloc _⟩)
      | (simp [useOf, *] at h; obtain ⟨rfl, rfl⟩ := h
         refine bodyPost_ret (v := .tuple #[.agg #[.bool _, .bool _, .bool _, .bool _, .bool _, .bool _, .int .i64 _], .bool _]) (by simp [results, Tryz.results123, go_sem]) rfl ⟨rfl, (Ext.refl _).alloc _⟩)

set_option maxHeartbeats 1000000 in
theorem operand_any (u : Bool) (f a : Int) (w : World) :
    Calls Tryz.prog 160 #[.bool u, .int .i64 f, .int .i64 a] w fun e w' => e = .returned (.bool (opnd u f a)) ∧ w = w' := by
  cases u
  · by_cases h : f = 0
    · go_enter Tryz.func160, Tryz.ntmps160
      go_wp2
      all_goals (go_ret; exact ⟨by simp [opnd, *] <;> omega, rfl⟩)
    · go_enter Tryz.func160, Tryz.ntmps160
      go_wp2
      all_goals (go_ret; exact ⟨by simp [opnd, *] <;> omega, rfl⟩)
  · by_cases h : 0 ≤ f
    · by_cases h2 : f < a
      · go_enter Tryz.func160, Tryz.ntmps160
        go_wp2
        all_goals (go_ret; exact ⟨by simp [opnd, *] <;> omega, rfl⟩)
      · go_enter Tryz.func160, Tryz.ntmps160
        go_wp2
        all_goals (go_ret; exact ⟨by simp [opnd, *] <;> omega, rfl⟩)
    · go_enter Tryz.func160, Tryz.ntmps160
      go_wp2
      all_goals (go_ret; exact ⟨by simp [opnd, *] <;> omega, rfl⟩)

set_option maxHeartbeats 1000000 in
theorem outs_any (u : Bool) (v lo hi : Int) (w : World) :
    Calls Tryz.prog 161 #[.bool u, .int .i64 v, .int .i64 lo, .int .i64 hi] w fun e w' => e = .returned (.bool (outs u v lo hi)) ∧ w = w' := by
  cases u
  · go_enter Tryz.func161, Tryz.ntmps161
    go_wp2
    all_goals (go_ret; exact ⟨by simp [outs, *] <;> omega, rfl⟩)
  · by_cases h : v < lo
    · go_enter Tryz.func161, Tryz.ntmps161
      go_wp2
      all_goals (go_ret; exact ⟨by simp [outs, *] <;> omega, rfl⟩)
    · go_enter Tryz.func161, Tryz.ntmps161
      go_wp2
      all_goals (go_ret; exact ⟨by simp [outs, *] <;> omega, rfl⟩)
end Wt
