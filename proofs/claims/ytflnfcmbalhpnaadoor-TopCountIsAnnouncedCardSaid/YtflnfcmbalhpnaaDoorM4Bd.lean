/- Walks: wittingref05.Few, wittingref25.Few, wittinglaw25.few, same; slices.Index of numbers, wittingref25.position, both through. -/
import Derived.Test.YtflnfcmbalhpnaaDoorM4Bc
import Derived.Test.YtflnfcmbalhpnaaDoorM4Ao
import Derived.Test.YtflnfcmbalhpnaaDoorM4Al
namespace Wt
open Go Go.RowKit Go.Maps Go.Proofs Fm

/-- Whether the formulas are small and few, and more. -/
def RetF5 (os : List (List Nd)) (e : Ending) (w w' : World) : Prop := ∃ b, e = .returned (.bool b) ∧ Ext w w' ∧ (b = true → os.length ≤ 10 ∧ ∀ j, j < os.length → (nth os j).length ≤ 60)
theorem posI_step {l : List Nat} {x : Int} {k : Nat} (h : ∀ j, j < k → ((nth l j : Nat) : Int) ≠ x) (hk : k < l.length) (he : ((nth l k : Nat) : Int) = x) : posI l x = (k : Int) := by
  have : l.findIdx? (fun n : Nat => (n : Int) == x) = some k := by
    rw [List.findIdx?_eq_some_iff_getElem]
    refine ⟨hk, by rw [← nth_eq _ _ hk]; simpa using he, fun j hj => ?_⟩
    have := h j hj
    rw [nth_eq _ _ (by omega)] at this
    simpa using this
  unfold posI; rw [this]
theorem posI_none {l : List Nat} {x : Int} (h : ∀ j, j < l.length → ((nth l j : Nat) : Int) ≠ x) : posI l x = -1 := by
  have : l.findIdx? (fun n : Nat => (n : Int) == x) = none := by
    rw [List.findIdx?_eq_none_iff]
    intro y hy
    obtain ⟨j, hj, rfl⟩ := mem_nth hy
    simpa using h j hj
  unfold posI; rw [this]
set_option maxHeartbeats 1000000 in
theorem index_any (l : List Nat) (x : Int) (a : Option Addr) (c : Nat) (w : World) (hr : RI w a (natI l)) :
    Calls Tryd.prog 13 #[.slice a l.length c, .int .i64 x] w fun e w' => e = .returned (.int .i64 (posI l x)) ∧ w = w' := by
  have HR := Lib.hid hr
  have hl := hr.len
  have hll : (natI l).length = l.length := by simp [natI]
  rw [hll] at hl
  clear hr
  go_enter Tryd.func13, Tryd.ntmps13
  go_wp2
  go_loop [8] (fun i => ∃ k : Nat, k ≤ l.length ∧ i = .int .i64 (k : Int) ∧ Hid (∀ j, j < k → ((nth l j : Nat) : Int) ≠ x)) (fun i => l.length - (intOf i).toNat)
  case atStart => exact ⟨0, Nat.zero_le _, rfl, fun _ h => absurd h (Nat.not_lt_zero _)⟩
  case round =>
    obtain ⟨k, hk, rfl, hno⟩ := hrel
    by_cases hlt : k < l.length
    · obtain ⟨b, off, rfl, hb, hc⟩ := HR.out.get (k := k) (by omega)
      rw [nth_natI hlt] at hc
      by_cases he : ((nth l k : Nat) : Int) = x
      · have hq : (x == ((nth l k : Nat) : Int)) = true := by simp [he]
        have hp := Lib.hid (posI_step hno.out hlt he)
        clear he
        go_wp2
        go_ret
        exact ⟨by rw [hp.out]; rfl, rfl⟩
      · have hq : (x == ((nth l k : Nat) : Int)) = false := by simp; exact fun h => he h.symm
        have hno2 : Hid (∀ j, j < k + 1 → ((nth l j : Nat) : Int) ≠ x) := Lib.hid (lt_step hno.out he)
        clear he
        go_wp2
        go_round
        case rel => exact ⟨k + 1, hlt, by go_num, hno2⟩
        case measure => simp [intOf]; omega
    · have hp := Lib.hid (posI_none (x := x) (l := l) fun j hj => hno.out j (by omega))
      go_wp2
      go_ret
      exact ⟨by rw [hp.out]; rfl, rfl⟩
/-- The rounds of through. -/
def ThE (w : World) (ws l : List Nat) (k : Nat) (v : Value) (wr : World) : Prop := GL w 3 iv (natI ((thr ws l).take k)) v wr
theorem thr_take (ws l : List Nat) {k : Nat} (hk : k < l.length) : natI ((thr ws l).take (k + 1)) = natI ((thr ws l).take k) ++ [((nth ws (nth l k) : Nat) : Int)] := by
  have h1 : k < (thr ws l).length := by rw [thr_len]; exact hk
  have h2 : (thr ws l)[k] = nth ws (nth l k) := by rw [← nth_eq _ _ h1]; exact nth_mapN _ _ hk
  rw [List.take_add_one, List.getElem?_eq_getElem h1, h2]
  simp [natI]
end Wt

/- The state of a walk through announcements: the model now, the worlds of the first one that its worlds were. -/
namespace Wt
open Go Go.RowKit Go.Maps Go.Proofs Fm

/-- Two worlds agree from a block on, but for one block. -/
def AgreeX (B b : Nat) (w' w'' : World) : Prop := ∀ k, B ≤ k → k ≠ b → k < w'.heap.size → w''.heap[k]? = w'.heap[k]?
theorem AgreeX.of {B b : Nat} {w' w'' : World} (h : Agree B w' w'') : AgreeX B b w' w'' := fun k hk _ hl => h k hk hl
theorem AgreeX.ext {B b : Nat} {w w' w'' : World} (e : Ext w w') (h : AgreeX B b w' w'') : AgreeX B b w w'' := fun k hk hb hl => (h k hk hb (Nat.lt_of_lt_of_le hl e.size)).trans (e.block k hl)
theorem AgreeX.set {B b k : Nat} {w w'' : World} {u : Value} (h : AgreeX B b (w.setCell ⟨b, k, none⟩ u) w'') : AgreeX B b w w'' := fun j hj hb hl => by
  have h1 := h j hj hb (by simpa [World.setCell] using hl)
  rw [h1]
  exact heap_setCell_other w ⟨b, k, none⟩ j u (by simpa using hb)
theorem AgreeX.agree {B b B' : Nat} {w w'' : World} (h : AgreeX B b w w'') (h1 : B ≤ B') (h2 : b < B' ∨ w.heap.size ≤ b) : Agree B' w w'' := fun k hk hl => h k (by omega) (by omega) hl
/-- The model now lies in a variable; its memory and the list of worlds lie elsewhere. -/
structure NowAt (B b : Nat) (A : Mo) (ws : List Nat) (va ra wa : Option Addr) (vc rc : Nat) (wr : World) : Prop where
  lo : B ≤ b
  out : OutAt wr b (.int .i64 A.worlds) (.slice va A.val.length vc) (.slice ra A.rel.length rc)
  keep : ∀ w'', AgreeX B b wr w'' → RM w'' va ra A ∧ RI w'' wa (natI ws)
section
variable {B b : Nat} {A : Mo} {ws : List Nat} {va ra wa : Option Addr} {vc rc : Nat} {wr : World}
theorem NowAt.ext {w' : World} (h : NowAt B b A ws va ra wa vc rc wr) (e : Ext wr w') : NowAt B b A ws va ra wa vc rc w' :=
  ⟨h.lo, h.out.ext e, fun w'' ha => h.keep w'' (ha.ext e)⟩
theorem NowAt.rm (h : NowAt B b A ws va ra wa vc rc wr) : RM wr va ra A := (h.keep wr fun _ _ _ _ => rfl).1
theorem NowAt.ri (h : NowAt B b A ws va ra wa vc rc wr) : RI wr wa (natI ws) := (h.keep wr fun _ _ _ _ => rfl).2
theorem NowAt.new {w0 w1 : World} {svs : List Value} (hm : FrM w0.heap.size w1 va ra vc rc A svs) (hu : ∀ w'', Agree w0.heap.size w1 w'' → RI w'' wa (natI ws)) (hB : B ≤ w0.heap.size) (hs : w0.heap.size ≤ w1.heap.size) (T : Nat) :
    NowAt B w1.heap.size A ws va ra wa vc rc (w1.alloc (.cells #[.int .i64 A.worlds, .slice va A.val.length vc, .slice ra A.rel.length rc] T)) := by
  refine ⟨by omega, OutAt.new _ _ _ _ _, fun w'' ha => ?_⟩
  have ha := ha.ext ((Ext.refl w1).alloc _)
  have ha2 : Agree w0.heap.size w1 w'' := ha.agree hB (.inr (Nat.le_refl _))
  exact ⟨(hm.agree ha2).rm, hu w'' ha2⟩
theorem NowAt.newC {w1 : World} {C : Nat} {svs : List Value} (hm : FrM C w1 va ra vc rc A svs) (hu : ∀ w'', Agree C w1 w'' → RI w'' wa (natI ws)) (hB : B ≤ C) (hs : C ≤ w1.heap.size) (T : Nat) :
    NowAt B w1.heap.size A ws va ra wa vc rc (w1.alloc (.cells #[.int .i64 A.worlds, .slice va A.val.length vc, .slice ra A.rel.length rc] T)) := by
  refine ⟨by omega, OutAt.new _ _ _ _ _, fun w'' ha => ?_⟩
  have ha := ha.ext ((Ext.refl w1).alloc _)
  have ha2 : Agree C w1 w'' := ha.agree hB (.inr (Nat.le_refl _))
  exact ⟨(hm.agree ha2).rm, hu w'' ha2⟩
theorem NowAt.set {W : World} {x y z : Value} (h : OutAt W b x y z) (hlo : B ≤ b) (hk : ∀ w'', AgreeX B b W w'' → RM w'' va ra A ∧ RI w'' wa (natI ws)) :
    NowAt B b A ws va ra wa vc rc (((W.setCell ⟨b, 0, none⟩ (.int .i64 A.worlds)).setCell ⟨b, 1, none⟩ (.slice va A.val.length vc)).setCell ⟨b, 2, none⟩ (.slice ra A.rel.length rc)) :=
  ⟨hlo, ((h.set0 _).set1 _).set2 _, fun w'' ha => hk w'' ha.set.set.set⟩
end
/-- A model, a list of worlds, a number and an error. -/
def RetQ (R : Mo × List Nat × Nat × Int) (e : Ending) (w w' : World) : Prop := ∃ va ra la vc rc lc, e = .returned (.tuple #[.agg #[.int .i64 R.1.worlds, .slice va R.1.val.length vc, .slice ra R.1.rel.length rc], .slice la R.2.1.length lc, .int .i64 (R.2.2.1 : Int), .int .i64 R.2.2.2]) ∧ (∀ w'', Agree w.heap.size w' w'' → RM w'' va ra R.1 ∧ RI w'' la (natI R.2.1)) ∧ Ext w w'
theorem results_cell_three {fn : Func} {p u v x : Tmp} {ty : TypeId} (h : fn.results = #[.cell p ty, .tmp u, .tmp v, .tmp x]) (tmps : Array Value) (P : Program) (w : World) :
    (results fn tmps).run P w = ((asAddr (tmps.getD p undef)).run P w).andThen fun a w₁ => ((loadVar ty a).run P w₁).andThen fun y w₂ => .ok (.tuple #[y, tmps.getD u undef, tmps.getD v undef, tmps.getD x undef]) w₂ := by
  simp only [results, h]
  simp [Sem.run_bind, Result.andThen]
theorem Agree.set {B b k : Nat} {w : World} (h : b < B) (u : Value) : Agree B w (w.setCell ⟨b, k, none⟩ u) := fun j hj _ => heap_setCell_other w ⟨b, k, none⟩ j u (by simp; omega)
theorem Agree.trans {B : Nat} {a b c : World} (h : Agree B a b) (k : Agree B b c) (hs : a.heap.size ≤ b.heap.size) : Agree B a c := fun j hj hl => (k j hj (by omega)).trans (h j hj hl)
theorem Agree.set3 {B b : Nat} (w : World) (h : b < B) (x y z : Value) : Agree B w (((w.setCell ⟨b, 0, none⟩ x).setCell ⟨b, 1, none⟩ y).setCell ⟨b, 2, none⟩ z) :=
  ((Agree.set h x).trans (Agree.set h y) (by simp)).trans (Agree.set h z) (by simp)
theorem OutAt.other {w : World} {b b' k : Nat} {x y z u : Value} (h : OutAt w b x y z) (hb : b ≠ b') : OutAt (w.setCell ⟨b', k, none⟩ u) b x y z :=
  h.keep (heap_setCell_other w ⟨b', k, none⟩ b u (by simpa using hb))
theorem OutAt.other3 {w : World} {b b' : Nat} {x y z u v t : Value} (h : OutAt w b x y z) (hb : b ≠ b') : OutAt (((w.setCell ⟨b', 0, none⟩ u).setCell ⟨b', 1, none⟩ v).setCell ⟨b', 2, none⟩ t) b x y z :=
  ((h.other hb).other hb).other hb
theorem Ext.set3 {a w : World} (h : Ext a w) {b : Nat} (hb : a.heap.size ≤ b) (x y z : Value) : Ext a (((w.setCell ⟨b, 0, none⟩ x).setCell ⟨b, 1, none⟩ y).setCell ⟨b, 2, none⟩ z) :=
  ((h.setCell hb x).setCell hb y).setCell hb z
theorem Agree.ofExt {B : Nat} {w' w'' : World} (e : Ext w' w'') : Agree B w' w'' := fun k _ hk => e.block k hk
/-- The model now and the list of worlds, returned. -/
theorem RetQ.now {B b n : Nat} {A : Mo} {ws : List Nat} {va ra wa : Option Addr} {vc rc wc : Nat} {w wr W2 : World} (h : NowAt B b A ws va ra wa vc rc wr) (hr : Agree B wr W2) (hs : wr.heap.size ≤ W2.heap.size) (hw : w.heap.size ≤ B) (hE : Ext w W2) :
    RetQ (A, ws, n, 0) (.returned (.tuple #[.agg #[.int .i64 A.worlds, .slice va A.val.length vc, .slice ra A.rel.length rc], .slice wa ws.length wc, .int .i64 (n : Int), .int .i64 0])) w W2 :=
  ⟨va, ra, wa, vc, rc, wc, rfl, fun w'' ha => h.keep w'' (AgreeX.of (hr.trans (ha.mono hw) hs)), hE⟩
/-- The next model is laid into the variable. -/
theorem NowAt.next {B b : Nat} {A A2 : Mo} {ws ws2 : List Nat} {va ra wa va2 ra2 ta : Option Addr} {vc rc vc2 rc2 : Nat} {wr w2 w3 w4 : World} {svs : List Value} (h : NowAt B b A ws va ra wa vc rc wr) (hB : B ≤ wr.heap.size) (h2 : Ext wr w2) (hm : FrM wr.heap.size w2 va2 ra2 vc2 rc2 A2 svs) (h3 : Ext w2 w3) (h4 : Ext w3 w4)
    (hu : ∀ w'', Agree w3.heap.size w4 w'' → RI w'' ta (natI ws2)) : NowAt B b A2 ws2 va2 ra2 ta vc2 rc2 (((w4.setCell ⟨b, 0, none⟩ (.int .i64 A2.worlds)).setCell ⟨b, 1, none⟩ (.slice va2 A2.val.length vc2)).setCell ⟨b, 2, none⟩ (.slice ra2 A2.rel.length rc2)) := by
  have hb := h.out.lt
  have s2 := h2.size
  have s3 := h3.size
  refine NowAt.set (h.out.ext (h2.trans (h3.trans h4))) h.lo fun w'' ha => ⟨?_, ?_⟩
  · exact (hm.agree ((ha.ext (h3.trans h4)).agree hB (.inl hb))).rm
  · exact hu w'' (ha.agree (by omega) (.inl (by omega)))
theorem RetQ.zero {w w' : World} (k : Nat) (c : Int) (h : Ext w w') : RetQ (⟨0, [], []⟩, [], k, c) (.returned (.tuple #[.agg #[.int .i64 0, .slice none 0 0, .slice none 0 0], .slice none 0 0, .int .i64 (k : Int), .int .i64 c])) w w' :=
  ⟨none, none, none, 0, 0, 0, rfl, fun _ _ => ⟨⟨RU.nil _ _, RR.nil _ _⟩, RI.nil _ _⟩, h⟩
theorem OutAt.ext3 {w : World} {b : Nat} {x y z : Value} (h : OutAt w b x y z) (u v t : Value) (o : Obj) : OutAt ((((w.setCell ⟨b, 0, none⟩ u).setCell ⟨b, 1, none⟩ v).setCell ⟨b, 2, none⟩ t).alloc o) b u v t :=
  (((h.set0 u).set1 v).set2 t).ext ((Ext.refl _).alloc o)
theorem seqR_nil (A : Mo) (ws : List Nat) (i : Nat) : seqR A ws [] i = (A, ws, i, 0) := rfl
theorem seqR_bad {A : Mo} {ws : List Nat} {f : List Nd} {l : List (List Nd)} {i : Nat} (h : upErr A f ≠ 0) : seqR A ws (f :: l) i = (⟨0, [], []⟩, [], i, upErr A f) := if_pos h
theorem seqR_ok {A : Mo} {ws : List Nat} {f : List Nd} {l : List (List Nd)} {i : Nat} (h : upErr A f = 0) : seqR A ws (f :: l) i = seqR (upM A f) (thr ws (upL A f)) l (i + 1) := if_neg (by simp [h])
end Wt

/- Walk: announce.Repeat. -/
namespace Wt
open Go Go.RowKit Go.Maps Go.Proofs Fm

/-- What Repeat comes to. -/
def repQ (M : Mo) (f : List Nd) : Mo × List Nat × Nat × Int := if reqErr M f ≠ 0 then (⟨0, [], []⟩, [], 0, reqErr M f) else ((repR f M.worlds.toNat M (List.range M.worlds.toNat) 0).1, (repR f M.worlds.toNat M (List.range M.worlds.toNat) 0).2.1, (repR f M.worlds.toNat M (List.range M.worlds.toNat) 0).2.2, 0)
theorem repR_stop {f : List Nd} {k n N : Nat} {A : Mo} {ws : List Nat} (ok : MoOk A N) (hk : N ≤ k) (h : holdsOf A f = 0#64 ∨ holdsOf A f = allW N) : repR f k A ws n = (A, ws, n) := by
  have h1 := ok.one
  obtain ⟨k, rfl⟩ : ∃ j, k = j + 1 := ⟨k - 1, by omega⟩
  unfold repR
  rw [show A.worlds.toNat = N by rw [ok.worlds]; exact Int.toNat_natCast N, if_pos h]
theorem repR_go {f : List Nd} {k n N : Nat} {A : Mo} {ws : List Nat} (ok : MoOk A N) (hk : N ≤ k) (h : holdsOf A f ≠ 0#64) (h2 : holdsOf A f ≠ allW N) : ∃ j, k = j + 1 ∧ repR f k A ws n = repR f j (upM A f) (thr ws (upL A f)) (n + 1) := by
  have h1 := ok.one
  obtain ⟨k, rfl⟩ : ∃ j, k = j + 1 := ⟨k - 1, by omega⟩
  refine ⟨k, rfl, ?_⟩
  conv => lhs; unfold repR
  rw [show A.worlds.toNat = N by rw [ok.worlds]; exact Int.toNat_natCast N, if_neg (by simp [h, h2])]
def lenOf (v : Value) : Nat := match v with | .slice _ n _ => n | _ => 0
/-- The rounds of Repeat. -/
def RepI (W0 : World) (n b : Nat) (R : Mo × List Nat × Nat) (f : List Nd) (k : Nat) (v : Value) (wr : World) : Prop :=
  ∃ A ws va ra wa vc rc wc, v = .slice wa ws.length wc ∧ NowAt (n + 2) b A ws va ra wa vc rc wr ∧ MoOk A ws.length ∧ reqErr A f = 0 ∧ (∃ j, ws.length ≤ j ∧ repR f j A ws k = R) ∧ k + ws.length ≤ 64 ∧ Ext W0 wr
end Wt
