/- Walks: announce.Update, wittingref25.Update (printed by gen_upd.py). -/
import Derived.Test.YtaghfmcaikjobaaGreatMArr
import Derived.Test.YtaghfmcaikjobaaGreatMRfC
import Derived.Test.YtaghfmcaikjobaaGreatMRef
import Derived.Test.YtaghfmcaikjobaaGreatMCkC
import Derived.Test.YtaghfmcaikjobaaGreatMBld
namespace Wt
open Go Go.RowKit Go.Maps Go.Proofs Fm

end Wt

/- Walk: announce.everything; a copy of a model with all of its worlds. -/
namespace Wt
open Go Go.RowKit Go.Maps Go.Proofs Fm

def topF : List Nd := fB ⟨1, 0, 0, 0, 0, 0⟩ []
theorem topF_is : IsF topF (.leaf 1 0 0 0) := ⟨by decide +kernel, by decide +kernel⟩
def evM (M : Mo) : Mo := if moCheck M = 0 then M else ⟨0, [], []⟩
def evL (M : Mo) : List Nat := if moCheck M = 0 then List.range M.worlds.toNat else []
theorem allW_ne {N : Nat} (h : 1 ≤ N) : allW N ≠ 0#64 := fun e => by
  have : bt (allW N) 0 = true := by rw [bt_allW]; simp; omega
  rw [e, bt_zero] at this; cases this
theorem ev_up (M : Mo) : upErr M topF = moCheck M ∧ upM M topF = evM M ∧ upL M topF = evL M := by
  by_cases h : moCheck M = 0
  · obtain ⟨N, ok⟩ := moCheck_ok h
    have hNt : M.worlds.toNat = N := by rw [ok.worlds]; exact Int.toNat_natCast N
    obtain ⟨h1, h2⟩ := set_sem h topF_is
    have hs : semT M (.leaf 1 0 0 0) = (allW N, true) := by simp [semT, valN, hNt]
    rw [hs] at h1 h2
    have h3 : reqErr M topF = 0 := by simpa using h1
    have h2 : holdsOf M topF = allW N := h2
    have hu := upErr_mk h3 (by rw [h2]; exact allW_ne ok.one)
    refine ⟨by rw [hu, h], ?_, ?_⟩
    · unfold upM evM; rw [if_pos hu, if_pos h, h2, memL_allW ok.most, arr_all ok]
    · unfold upL evL; rw [if_pos hu, if_pos h, h2, memL_allW ok.most, hNt]
  · have h3 : reqErr M topF = moCheck M := if_pos h
    have hu : upErr M topF = moCheck M := by unfold upErr; rw [if_pos (by rw [h3]; exact h), h3]
    refine ⟨hu, ?_, ?_⟩
    · unfold upM evM; rw [if_neg (by rw [hu]; exact h), if_neg h]
    · unfold upL evL; rw [if_neg (by rw [hu]; exact h), if_neg h]
end Wt

/- Walks: wittingref05.Few, wittingref25.Few, wittinglaw25.few, same; slices.Index of numbers, wittingref25.position, both through. -/
namespace Wt
open Go Go.RowKit Go.Maps Go.Proofs Fm

/-- Whether the formulas are small and few, and more. -/
def RetF5 (os : List (List Nd)) (e : Ending) (w w' : World) : Prop := ∃ b, e = .returned (.bool b) ∧ Ext w w' ∧ (b = true → os.length ≤ 10 ∧ ∀ j, j < os.length → (nth os j).length ≤ 60)
theorem posI_step {l : List Nat} {x : Int} {k : Nat} (h : ∀ j, j < k → ((nth l j : Nat) : Int) ≠ x) (hk : k < l.length) (he : ((nth l k : Nat) : Int) = x) : posI l x = (k : Int) := by
  have : l.findIdx? (fun n : Nat => (n : Int) == x) = some k := by
    rw [List.findIdx?_eq_some_iff_getElem]
    refine ⟨hk, by rw [← nth_eq _ _ hk]; simpa using he, fun j hj => ?_⟩
    have := h j hj
    rw [nth_eq _ _ (by omega)] at this
    simpa using this
  unfold posI; rw [this]
theorem posI_none {l : List Nat} {x : Int} (h : ∀ j, j < l.length → ((nth l j : Nat) : Int) ≠ x) : posI l x = -1 := by
  have : l.findIdx? (fun n : Nat => (n : Int) == x) = none := by
    rw [List.findIdx?_eq_none_iff]
    intro y hy
    obtain ⟨j, hj, rfl⟩ := mem_nth hy
    simpa using h j hj
  unfold posI; rw [this]
/-- The rounds of through. -/
def ThE (w : World) (ws l : List Nat) (k : Nat) (v : Value) (wr : World) : Prop := GL w 3 iv (natI ((thr ws l).take k)) v wr
theorem thr_take (ws l : List Nat) {k : Nat} (hk : k < l.length) : natI ((thr ws l).take (k + 1)) = natI ((thr ws l).take k) ++ [((nth ws (nth l k) : Nat) : Int)] := by
  have h1 : k < (thr ws l).length := by rw [thr_len]; exact hk
  have h2 : (thr ws l)[k] = nth ws (nth l k) := by rw [← nth_eq _ _ h1]; exact nth_mapN _ _ hk
  rw [List.take_add_one, List.getElem?_eq_getElem h1, h2]
  simp [natI]
end Wt

/- The state of a walk through announcements: the model now, the worlds of the first one that its worlds were. -/
namespace Wt
open Go Go.RowKit Go.Maps Go.Proofs Fm

/-- Two worlds agree from a block on, but for one block. -/
def AgreeX (B b : Nat) (w' w'' : World) : Prop := ∀ k, B ≤ k → k ≠ b → k < w'.heap.size → w''.heap[k]? = w'.heap[k]?
theorem AgreeX.of {B b : Nat} {w' w'' : World} (h : Agree B w' w'') : AgreeX B b w' w'' := fun k hk _ hl => h k hk hl
theorem AgreeX.ext {B b : Nat} {w w' w'' : World} (e : Ext w w') (h : AgreeX B b w' w'') : AgreeX B b w w'' := fun k hk hb hl => (h k hk hb (Nat.lt_of_lt_of_le hl e.size)).trans (e.block k hl)
theorem AgreeX.set {B b k : Nat} {w w'' : World} {u : Value} (h : AgreeX B b (w.setCell ⟨b, k, none⟩ u) w'') : AgreeX B b w w'' := fun j hj hb hl => by
  have h1 := h j hj hb (by simpa [World.setCell] using hl)
  rw [h1]
  exact heap_setCell_other w ⟨b, k, none⟩ j u (by simpa using hb)
theorem AgreeX.agree {B b B' : Nat} {w w'' : World} (h : AgreeX B b w w'') (h1 : B ≤ B') (h2 : b < B' ∨ w.heap.size ≤ b) : Agree B' w w'' := fun k hk hl => h k (by omega) (by omega) hl
/-- The model now lies in a variable; its memory and the list of worlds lie elsewhere. -/
structure NowAt (B b : Nat) (A : Mo) (ws : List Nat) (va ra wa : Option Addr) (vc rc : Nat) (wr : World) : Prop where
  lo : B ≤ b
  out : OutAt wr b (.int .i64 A.worlds) (.slice va A.val.length vc) (.slice ra A.rel.length rc)
  keep : ∀ w'', AgreeX B b wr w'' → RM w'' va ra A ∧ RI w'' wa (natI ws)
section
variable {B b : Nat} {A : Mo} {ws : List Nat} {va ra wa : Option Addr} {vc rc : Nat} {wr : World}
theorem NowAt.ext {w' : World} (h : NowAt B b A ws va ra wa vc rc wr) (e : Ext wr w') : NowAt B b A ws va ra wa vc rc w' :=
  ⟨h.lo, h.out.ext e, fun w'' ha => h.keep w'' (ha.ext e)⟩
theorem NowAt.rm (h : NowAt B b A ws va ra wa vc rc wr) : RM wr va ra A := (h.keep wr fun _ _ _ _ => rfl).1
theorem NowAt.ri (h : NowAt B b A ws va ra wa vc rc wr) : RI wr wa (natI ws) := (h.keep wr fun _ _ _ _ => rfl).2
theorem NowAt.new {w0 w1 : World} {svs : List Value} (hm : FrM w0.heap.size w1 va ra vc rc A svs) (hu : ∀ w'', Agree w0.heap.size w1 w'' → RI w'' wa (natI ws)) (hB : B ≤ w0.heap.size) (hs : w0.heap.size ≤ w1.heap.size) (T : Nat) :
    NowAt B w1.heap.size A ws va ra wa vc rc (w1.alloc (.cells #[.int .i64 A.worlds, .slice va A.val.length vc, .slice ra A.rel.length rc] T)) := by
  refine ⟨by omega, OutAt.new _ _ _ _ _, fun w'' ha => ?_⟩
  have ha := ha.ext ((Ext.refl w1).alloc _)
  have ha2 : Agree w0.heap.size w1 w'' := ha.agree hB (.inr (Nat.le_refl _))
  exact ⟨(hm.agree ha2).rm, hu w'' ha2⟩
theorem NowAt.newC {w1 : World} {C : Nat} {svs : List Value} (hm : FrM C w1 va ra vc rc A svs) (hu : ∀ w'', Agree C w1 w'' → RI w'' wa (natI ws)) (hB : B ≤ C) (hs : C ≤ w1.heap.size) (T : Nat) :
    NowAt B w1.heap.size A ws va ra wa vc rc (w1.alloc (.cells #[.int .i64 A.worlds, .slice va A.val.length vc, .slice ra A.rel.length rc] T)) := by
  refine ⟨by omega, OutAt.new _ _ _ _ _, fun w'' ha => ?_⟩
  have ha := ha.ext ((Ext.refl w1).alloc _)
  have ha2 : Agree C w1 w'' := ha.agree hB (.inr (Nat.le_refl _))
  exact ⟨(hm.agree ha2).rm, hu w'' ha2⟩
theorem NowAt.set {W : World} {x y z : Value} (h : OutAt W b x y z) (hlo : B ≤ b) (hk : ∀ w'', AgreeX B b W w'' → RM w'' va ra A ∧ RI w'' wa (natI ws)) :
    NowAt B b A ws va ra wa vc rc (((W.setCell ⟨b, 0, none⟩ (.int .i64 A.worlds)).setCell ⟨b, 1, none⟩ (.slice va A.val.length vc)).setCell ⟨b, 2, none⟩ (.slice ra A.rel.length rc)) :=
  ⟨hlo, ((h.set0 _).set1 _).set2 _, fun w'' ha => hk w'' ha.set.set.set⟩
end
/-- A model, a list of worlds, a number and an error. -/
def RetQ (R : Mo × List Nat × Nat × Int) (e : Ending) (w w' : World) : Prop := ∃ va ra la vc rc lc, e = .returned (.tuple #[.agg #[.int .i64 R.1.worlds, .slice va R.1.val.length vc, .slice ra R.1.rel.length rc], .slice la R.2.1.length lc, .int .i64 (R.2.2.1 : Int), .int .i64 R.2.2.2]) ∧ (∀ w'', Agree w.heap.size w' w'' → RM w'' va ra R.1 ∧ RI w'' la (natI R.2.1)) ∧ Ext w w'
theorem results_cell_three {fn : Func} {p u v x : Tmp} {ty : TypeId} (h : fn.results = #[.cell p ty, .tmp u, .tmp v, .tmp x]) (tmps : Array Value) (P : Program) (w : World) :
    (results fn tmps).run P w = ((asAddr (tmps.getD p undef)).run P w).andThen fun a w₁ => ((loadVar ty a).run P w₁).andThen fun y w₂ => .ok (.tuple #[y, tmps.getD u undef, tmps.getD v undef, tmps.getD x undef]) w₂ := by
  simp only [results, h]
  simp [Sem.run_bind, Result.andThen]
theorem Agree.set {B b k : Nat} {w : World} (h : b < B) (u : Value) : Agree B w (w.setCell ⟨b, k, none⟩ u) := fun j hj _ => heap_setCell_other w ⟨b, k, none⟩ j u (by simp; omega)
theorem Agree.trans {B : Nat} {a b c : World} (h : Agree B a b) (k : Agree B b c) (hs : a.heap.size ≤ b.heap.size) : Agree B a c := fun j hj hl => (k j hj (by omega)).trans (h j hj hl)
theorem Agree.set3 {B b : Nat} (w : World) (h : b < B) (x y z : Value) : Agree B w (((w.setCell ⟨b, 0, none⟩ x).setCell ⟨b, 1, none⟩ y).setCell ⟨b, 2, none⟩ z) :=
  ((Agree.set h x).trans (Agree.set h y) (by simp)).trans (Agree.set h z) (by simp)
theorem OutAt.other {w : World} {b b' k : Nat} {x y z u : Value} (h : OutAt w b x y z) (hb : b ≠ b') : OutAt (w.setCell ⟨b', k, none⟩ u) b x y z :=
  h.keep (heap_setCell_other w ⟨b', k, none⟩ b u (by simpa using hb))
theorem OutAt.other3 {w : World} {b b' : Nat} {x y z u v t : Value} (h : OutAt w b x y z) (hb : b ≠ b') : OutAt (((w.setCell ⟨b', 0, none⟩ u).setCell ⟨b', 1, none⟩ v).setCell ⟨b', 2, none⟩ t) b x y z :=
  ((h.other hb).other hb).other hb
theorem Ext.set3 {a w : World} (h : Ext a w) {b : Nat} (hb : a.heap.size ≤ b) (x y z : Value) : Ext a (((w.setCell ⟨b, 0, none⟩ x).setCell ⟨b, 1, none⟩ y).setCell ⟨b, 2, none⟩ z) :=
  ((h.setCell hb x).setCell hb y).setCell hb z
theorem Agree.ofExt {B : Nat} {w' w'' : World} (e : Ext w' w'') : Agree B w' w'' := fun k _ hk => e.block k hk
/-- The model now and the list of worlds, returned. -/
theorem RetQ.now {B b n : Nat} {A : Mo} {ws : List Nat} {va ra wa : Option Addr} {vc rc wc : Nat} {w wr W2 : World} (h : NowAt B b A ws va ra wa vc rc wr) (hr : Agree B wr W2) (hs : wr.heap.size ≤ W2.heap.size) (hw : w.heap.size ≤ B) (hE : Ext w W2) :
    RetQ (A, ws, n, 0) (.returned (.tuple #[.agg #[.int .i64 A.worlds, .slice va A.val.length vc, .slice ra A.rel.length rc], .slice wa ws.length wc, .int .i64 (n : Int), .int .i64 0])) w W2 :=
  ⟨va, ra, wa, vc, rc, wc, rfl, fun w'' ha => h.keep w'' (AgreeX.of (hr.trans (ha.mono hw) hs)), hE⟩
/-- The next model is laid into the variable. -/
theorem NowAt.next {B b : Nat} {A A2 : Mo} {ws ws2 : List Nat} {va ra wa va2 ra2 ta : Option Addr} {vc rc vc2 rc2 : Nat} {wr w2 w3 w4 : World} {svs : List Value} (h : NowAt B b A ws va ra wa vc rc wr) (hB : B ≤ wr.heap.size) (h2 : Ext wr w2) (hm : FrM wr.heap.size w2 va2 ra2 vc2 rc2 A2 svs) (h3 : Ext w2 w3) (h4 : Ext w3 w4)
    (hu : ∀ w'', Agree w3.heap.size w4 w'' → RI w'' ta (natI ws2)) : NowAt B b A2 ws2 va2 ra2 ta vc2 rc2 (((w4.setCell ⟨b, 0, none⟩ (.int .i64 A2.worlds)).setCell ⟨b, 1, none⟩ (.slice va2 A2.val.length vc2)).setCell ⟨b, 2, none⟩ (.slice ra2 A2.rel.length rc2)) := by
  have hb := h.out.lt
  have s2 := h2.size
  have s3 := h3.size
  refine NowAt.set (h.out.ext (h2.trans (h3.trans h4))) h.lo fun w'' ha => ⟨?_, ?_⟩
  · exact (hm.agree ((ha.ext (h3.trans h4)).agree hB (.inl hb))).rm
  · exact hu w'' (ha.agree (by omega) (.inl (by omega)))
theorem RetQ.zero {w w' : World} (k : Nat) (c : Int) (h : Ext w w') : RetQ (⟨0, [], []⟩, [], k, c) (.returned (.tuple #[.agg #[.int .i64 0, .slice none 0 0, .slice none 0 0], .slice none 0 0, .int .i64 (k : Int), .int .i64 c])) w w' :=
  ⟨none, none, none, 0, 0, 0, rfl, fun _ _ => ⟨⟨RU.nil _ _, RR.nil _ _⟩, RI.nil _ _⟩, h⟩
theorem OutAt.ext3 {w : World} {b : Nat} {x y z : Value} (h : OutAt w b x y z) (u v t : Value) (o : Obj) : OutAt ((((w.setCell ⟨b, 0, none⟩ u).setCell ⟨b, 1, none⟩ v).setCell ⟨b, 2, none⟩ t).alloc o) b u v t :=
  (((h.set0 u).set1 v).set2 t).ext ((Ext.refl _).alloc o)
theorem seqR_nil (A : Mo) (ws : List Nat) (i : Nat) : seqR A ws [] i = (A, ws, i, 0) := rfl
theorem seqR_bad {A : Mo} {ws : List Nat} {f : List Nd} {l : List (List Nd)} {i : Nat} (h : upErr A f ≠ 0) : seqR A ws (f :: l) i = (⟨0, [], []⟩, [], i, upErr A f) := if_pos h
theorem seqR_ok {A : Mo} {ws : List Nat} {f : List Nd} {l : List (List Nd)} {i : Nat} (h : upErr A f = 0) : seqR A ws (f :: l) i = seqR (upM A f) (thr ws (upL A f)) l (i + 1) := if_neg (by simp [h])
end Wt

/- Walk: announce.Repeat. -/
namespace Wt
open Go Go.RowKit Go.Maps Go.Proofs Fm

/-- What Repeat comes to. -/
def repQ (M : Mo) (f : List Nd) : Mo × List Nat × Nat × Int := if reqErr M f ≠ 0 then (⟨0, [], []⟩, [], 0, reqErr M f) else ((repR f M.worlds.toNat M (List.range M.worlds.toNat) 0).1, (repR f M.worlds.toNat M (List.range M.worlds.toNat) 0).2.1, (repR f M.worlds.toNat M (List.range M.worlds.toNat) 0).2.2, 0)
theorem repR_stop {f : List Nd} {k n N : Nat} {A : Mo} {ws : List Nat} (ok : MoOk A N) (hk : N ≤ k) (h : holdsOf A f = 0#64 ∨ holdsOf A f = allW N) : repR f k A ws n = (A, ws, n) := by
  have h1 := ok.one
  obtain ⟨k, rfl⟩ : ∃ j, k = j + 1 := ⟨k - 1, by omega⟩
  unfold repR
  rw [show A.worlds.toNat = N by rw [ok.worlds]; exact Int.toNat_natCast N, if_pos h]
theorem repR_go {f : List Nd} {k n N : Nat} {A : Mo} {ws : List Nat} (ok : MoOk A N) (hk : N ≤ k) (h : holdsOf A f ≠ 0#64) (h2 : holdsOf A f ≠ allW N) : ∃ j, k = j + 1 ∧ repR f k A ws n = repR f j (upM A f) (thr ws (upL A f)) (n + 1) := by
  have h1 := ok.one
  obtain ⟨k, rfl⟩ : ∃ j, k = j + 1 := ⟨k - 1, by omega⟩
  refine ⟨k, rfl, ?_⟩
  conv => lhs; unfold repR
  rw [show A.worlds.toNat = N by rw [ok.worlds]; exact Int.toNat_natCast N, if_neg (by simp [h, h2])]
def lenOf (v : Value) : Nat := match v with | .slice _ n _ => n | _ => 0
/-- The rounds of Repeat. -/
def RepI (W0 : World) (n b : Nat) (R : Mo × List Nat × Nat) (f : List Nd) (k : Nat) (v : Value) (wr : World) : Prop :=
  ∃ A ws va ra wa vc rc wc, v = .slice wa ws.length wc ∧ NowAt (n + 2) b A ws va ra wa vc rc wr ∧ MoOk A ws.length ∧ reqErr A f = 0 ∧ (∃ j, ws.length ≤ j ∧ repR f j A ws k = R) ∧ k + ws.length ≤ 64 ∧ Ext W0 wr
end Wt

/- Plain laws of announcements: two in a row are one restriction; what repetition leaves; whether and then restriction. -/
namespace Wt
open Go Go.RowKit Go.Proofs Fm

/-! Two announcements. -/
theorem seq_two {M : Mo} {f g : List Nd} (hM : moCheck M = 0) (hu : upErr M f = 0) : seqOf M [f, g] = if upErr (upM M f) g ≠ 0 then (⟨0, [], []⟩, [], 1, upErr (upM M f) g) else (upM (upM M f) g, thr (upL M f) (upL (upM M f) g), 2, 0) := by
  obtain ⟨N, ok, -, -, -, hlt, -, -⟩ := up_ok hu
  unfold seqOf
  rw [if_neg (by simp [hM]), show M.worlds.toNat = N by rw [ok.worlds]; exact Int.toNat_natCast N, seqR_ok hu, thr_range hlt]
  rfl
/-- The worlds of the first model that the worlds of a set of the second were, as the law gathers them. -/
def gatS (s : BitVec 64) (l : List Nat) : Nat → BitVec 64
  | 0 => 0#64
  | k + 1 => gatS s l k ||| ((s >>> k &&& 1#64) <<< nth l k)
theorem bt_gatS (s : BitVec 64) (l : List Nat) (hl : ∀ i, i < l.length → nth l i < 64) : ∀ k, k ≤ l.length → ∀ i, bt (gatS s l k) i = true ↔ ∃ j, j < k ∧ bt s j = true ∧ nth l j = i
  | 0, _, i => by simp [gatS, bt_zero]
  | k + 1, hk, i => by
    have ih := bt_gatS s l hl k (by omega) i
    have hlk := hl k (by omega)
    have e : bt ((s >>> k &&& 1#64) <<< nth l k) i = (decide (i = nth l k) && bt s k) := by
      simp only [bt, BitVec.getLsbD_shiftLeft, BitVec.getLsbD_and, BitVec.getLsbD_ushiftRight, BitVec.getLsbD_one]
      by_cases h : i = nth l k
      · subst h; simp [hlk]
      · by_cases h2 : i < nth l k
        · simp [h, h2]
        · have : ¬ (i - nth l k = 0) := by omega
          simp [h, this]
    unfold gatS
    rw [bt_or, e, Bool.or_eq_true, ih]
    constructor
    · rintro (⟨j, h1, h2, h3⟩ | h)
      · exact ⟨j, by omega, h2, h3⟩
      · simp only [Bool.and_eq_true, decide_eq_true_eq] at h
        exact ⟨k, by omega, h.2, h.1.symm⟩
    · rintro ⟨j, h1, h2, h3⟩
      by_cases hj : j = k
      · subst hj; right; simp [h2, h3]
      · exact .inl ⟨j, by omega, h2, h3⟩
/-- Two announcements restrict the model to the gathered worlds. -/
theorem merge_law {M : Mo} {f g : List Nd} (hu : upErr M f = 0) (hg : reqErr (upM M f) g = 0) :
    let S := gatS (holdsOf (upM M f) g) (upL M f) (upL M f).length
    (S = 0#64 → upErr (upM M f) g = 11) ∧ (S ≠ 0#64 → upErr (upM M f) g = 0 ∧ resErr M S = 0 ∧ resM M S = upM (upM M f) g ∧ resL M S = natI (thr (upL M f) (upL (upM M f) g))) := by
  intro S
  obtain ⟨N, ok, ok2, e1, e2, hlt, hle, hrq⟩ := up_ok hu
  have h64 := ok.most
  have hl64 : ∀ i, i < (upL M f).length → nth (upL M f) i < 64 := fun i hi => by have := hlt i hi; omega
  have hS : ∀ i, bt S i = true ↔ ∃ j, j < (upL M f).length ∧ bt (holdsOf (upM M f) g) j = true ∧ nth (upL M f) j = i := bt_gatS _ _ hl64 _ (Nat.le_refl _)
  have hin := holds_in ok2 g
  refine ⟨fun h0 => ?_, fun h0 => ?_⟩
  · have hz : holdsOf (upM M f) g = 0#64 := bt_ext fun k hk => by
      rw [bt_zero]
      cases hb : bt (holdsOf (upM M f) g) k
      · rfl
      · have h2 := hin k hk hb
        rw [bt_allW] at h2; simp at h2
        have h3 := (hS (nth (upL M f) k)).2 ⟨k, h2.2, hb, rfl⟩
        rw [h0, bt_zero] at h3; cases h3
    unfold upErr; rw [if_neg (by simp [hg]), if_pos hz]
  · have hnz : holdsOf (upM M f) g ≠ 0#64 := fun e => h0 (bt_ext fun k hk => by
      rw [bt_zero]
      cases hb : bt S k
      · rfl
      · obtain ⟨j, _, hj, _⟩ := (hS k).1 hb
        rw [e, bt_zero] at hj; cases hj)
    have hu2 := upErr_mk hg hnz
    have hSN : Sub S (allW N) := fun k hk hb => by
      obtain ⟨j, hj, _, rfl⟩ := (hS k).1 hb
      have := hlt j hj
      rw [bt_allW]; simp [hk, this]
    obtain ⟨r1, r2, r3⟩ := res_ok ok hSN h0
    have hm : memL S = thr (upL M f) (upL (upM M f) g) := by
      have e4 : upL (upM M f) g = memL (holdsOf (upM M f) g) := if_pos hu2
      rw [e4, e2]
      refine memL_thr (by rw [← e2]; exact hin) fun i => ?_
      rw [hS i, e2]
    have e4 : upL (upM M f) g = memL (holdsOf (upM M f) g) := if_pos hu2
    have e5 : upM (upM M f) g = arrM (upM M f) (upL (upM M f) g) := by rw [e4]; exact if_pos hu2
    refine ⟨hu2, r1, ?_, ?_⟩
    · have key := arr_arr (M := M) (ws := upL M f) (vs := upL (upM M f) g) (Nat.le_trans hle h64) (by rw [e4]; exact memL_len _) (fun i hi => by
        rw [e4] at hi ⊢
        exact memL_lt hin hi)
      rw [r2, hm, e5, ← key, ← e1]
    · rw [r3, hm]
/-! Repetition. -/
theorem rep_law {f : List Nd} : ∀ (k n : Nat) (A : Mo) (ws : List Nat), MoOk A ws.length → reqErr A f = 0 → ws.length ≤ k →
    ∃ A' ws' n', repR f k A ws n = (A', ws', n + n') ∧ MoOk A' ws'.length ∧ reqErr A' f = 0 ∧ (holdsOf A' f = 0#64 ∨ holdsOf A' f = allW ws'.length) ∧ n' + ws'.length ≤ ws.length ∧ ∀ i, seqR A ws (List.replicate n' f) i = (A', ws', i + n', 0)
  | 0, n, A, ws, ok, _, hk => by have := ok.one; omega
  | k + 1, n, A, ws, ok, hq, hk => by
    by_cases h : holdsOf A f = 0#64 ∨ holdsOf A f = allW ws.length
    · exact ⟨A, ws, 0, repR_stop ok hk h, ok, hq, h, by omega, fun i => rfl⟩
    · have h1 : holdsOf A f ≠ 0#64 := fun e => h (.inl e)
      have h2 : holdsOf A f ≠ allW ws.length := fun e => h (.inr e)
      obtain ⟨j, hj, hgo⟩ := repR_go ok hk h1 h2 (n := n) (ws := ws)
      obtain rfl : k = j := by omega
      have hu := upErr_mk hq h1
      obtain ⟨N, ok0, ok2, -, -, -, hle, hrq⟩ := up_ok hu
      have hN : N = ws.length := by
        have e1 := ok0.worlds
        have e2 := ok.worlds
        omega
      have hne : (upL A f).length ≠ ws.length := fun e => h2 ((up_all ok hu).1 e)
      obtain ⟨A', ws', n', g1, g2, g3, g4, g5, g6⟩ := rep_law k (n + 1) (upM A f) (thr ws (upL A f)) (by rw [thr_len]; exact ok2) ((hrq f).trans hq) (by rw [thr_len]; omega)
      rw [thr_len] at g5
      refine ⟨A', ws', n' + 1, by rw [hgo, g1]; simp; omega, g2, g3, g4, by omega, fun i => ?_⟩
      rw [List.replicate_succ, seqR_ok hu, g6]
      simp; omega
/-! Whether. -/
theorem wh_law {M : Mo} {N : Nat} (ok : MoOk M N) {f : List Nd} (h : reqErr M f = 0) : arrM (whM M f) (memL (holdsOf M f)) = arrM M (memL (holdsOf M f)) := by
  have e : whM M f = ⟨M.worlds, M.val, M.rel.map (whRow (holdsOf M f))⟩ := if_neg (by simp [h])
  rw [e]
  unfold arrM
  simp only [List.map_map, Mo.mk.injEq, true_and]
  refine List.map_congr_left fun r hr => ?_
  simp only [Function.comp]
  refine nth_ext (by simp) fun k hk => ?_
  have hk : k < (memL (holdsOf M f)).length := by simpa using hk
  rw [nth_mapN _ _ hk, nth_mapN _ _ hk]
  have hlt := memL_lt (holds_in ok f) hk
  have hb := (mem_memL.1 (nth_mem hk)).2
  have hrl := ok.row r hr
  have hrow : nth (whRow (holdsOf M f) r) (nth (memL (holdsOf M f)) k) = nth r (nth (memL (holdsOf M f)) k) &&& holdsOf M f := by
    unfold whRow
    rw [nth_mapN _ _ (by simp; omega), nth_range (by omega), if_pos hb]
  rw [hrow]
  refine bt_ext fun i hi => ?_
  rw [bt_pullL _ _ (memL_len _), bt_pullL _ _ (memL_len _), bt_and]
  by_cases hil : i < (memL (holdsOf M f)).length
  · rw [(mem_memL.1 (nth_mem hil)).2]; simp
  · simp [hil]
end Wt
