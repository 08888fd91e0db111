/- Walks: puzzles.Numbers. -/
import Derived.Test.YtoacdccachhjdaaGreatDoorMACd
import Derived.Test.YtoacdccachhjdaaGreatDoorMAAw
namespace Wt
open Go Go.RowKit Go.Maps Go.Proofs Fm

def numP (x y : Nat) : Bool := ((x : Int) - (y : Int) == 1) || ((y : Int) - (x : Int) == 1)
def numL (m : Nat) : List (Nat × Nat) := prAll m numP
def numK (a : Nat) (p : Nat × Nat) : Int := if a = 0 then (p.1 : Int) else (p.2 : Int)
def numM (m : Nat) : Mo := twoM 3 (numL m) numK
theorem numL_ok : ∀ m : _root_.Fin 8, (numL m.val).length ≤ 64 ∧ ∀ p ∈ numL m.val, p.1 < 8 ∧ p.2 < 8 := by decide +kernel
theorem numL_at {m : Nat} (h : m ≤ 7) {k : Nat} (hk : k < (numL m).length) : (nth (numL m) k).1 < 2 ^ 3 ∧ (nth (numL m) k).2 < 2 ^ 3 := (numL_ok ⟨m, by omega⟩).2 _ (nth_mem hk)
theorem cf_num1 (args : Array Value) (W : World) : (callFunc 60 args).run Tryz.prog W = .ok (.enter 60 args) W := by
  simp [callFunc, Tryz.func60, Tryz.f60]
theorem cf_num2 (args : Array Value) (W : World) : (callFunc 62 args).run Tryz.prog W = .ok (.enter 62 args) W := by
  simp [callFunc, Tryz.func62, Tryz.f62]
set_option maxHeartbeats 1000000 in
theorem num1_any (x y : Nat) (hx : x ≤ 100) (hy : y ≤ 100) (w : World) : Calls Tryz.prog 60 (.int .i64 (x : Int) :: .int .i64 (y : Int) :: ([] : List Value)).toArray w fun e w' => e = .returned (.bool (numP x y)) ∧ w = w' := by
  unfold numP
  generalize hb : ((x : Int) - (y : Int) == 1) = b
  generalize hc : ((y : Int) - (x : Int) == 1) = c
  cases b
  · go_enter Tryz.func60, Tryz.ntmps60
    go_wp2_with fail
    go_ret
    exact ⟨rfl, rfl⟩
  · go_enter Tryz.func60, Tryz.ntmps60
    go_wp2_with fail
    go_ret
    exact ⟨rfl, rfl⟩
set_option maxHeartbeats 1000000 in
theorem num2_any (a : Nat) (p : Nat × Nat) (ha : a < 2) (w : World) : Calls Tryz.prog 62 (.int .i64 (a : Int) :: .agg #[.int .i64 (p.1 : Int), .int .i64 (p.2 : Int)] :: ([] : List Value)).toArray w fun e w' => e = .returned (.int .i64 (numK a p)) ∧ Ext w w' := by
  obtain ⟨x, y⟩ := p
  dsimp only
  rcases (show a = 0 ∨ a = 1 by omega) with rfl | rfl
  · go_enter Tryz.func62, Tryz.ntmps62
    go_wp2_with fail
    go_ret
    exact ⟨rfl, (Ext.refl w).alloc _⟩
  · go_enter Tryz.func62, Tryz.ntmps62
    go_wp2_with fail
    go_ret
    exact ⟨rfl, (Ext.refl w).alloc _⟩
/-- A model, a list of pairs and an error. -/
def RetNm (A : Mo) (L : List (Nat × Nat)) (c : Int) (e : Ending) (w w' : World) : Prop := ∃ va ra la vc rc lc, e = .returned (.tuple #[.agg #[.int .i64 A.worlds, .slice va A.val.length vc, .slice ra A.rel.length rc], .slice la L.length lc, .int .i64 c]) ∧ RM w' va ra A ∧ RPe w' la L ∧ Ext w w'
/-- The same, with memory of its own. -/
def RetNk (A : Mo) (L : List (Nat × Nat)) (c : Int) (e : Ending) (w w' : World) : Prop := ∃ va ra la vc rc lc, e = .returned (.tuple #[.agg #[.int .i64 A.worlds, .slice va A.val.length vc, .slice ra A.rel.length rc], .slice la L.length lc, .int .i64 c]) ∧ (∀ w'', Agree w.heap.size w' w'' → RM w'' va ra A) ∧ (∀ w'', Agree w.heap.size w' w'' → RPe w'' la L) ∧ Ext w w'
theorem RetNk.nm {A : Mo} {L : List (Nat × Nat)} {c : Int} {e : Ending} {w w' : World} (h : RetNk A L c e w w') : RetNm A L c e w w' := by
  obtain ⟨va, ra, la, vc, rc, lc, rfl, h1, h2, h3⟩ := h
  exact ⟨va, ra, la, vc, rc, lc, rfl, h1 _ fun _ _ _ => rfl, h2 _ fun _ _ _ => rfl, h3⟩
set_option maxRecDepth 20000 in
set_option maxHeartbeats 4000000 in
theorem numbers_own (m : Nat) (h1 : 1 ≤ m) (h7 : m ≤ 7) (w : World) : Calls Tryz.prog 15 #[.int .i64 (m : Int)] w fun e w' => RetNk (numM m) (numL m) 0 e w w' := by
  have hE0 : Ext w (w.alloc (.cells #[.int .i64 0, .slice none 0 0, .slice none 0 0] 28)) := (Ext.refl w).alloc _
  have HE := Lib.hid hE0
  have HOR := Lib.hid (OutAt.new w (.int .i64 0) (.slice none 0 0) (.slice none 0 0) 28)
  have hsz : (w.alloc (.cells #[.int .i64 0, .slice none 0 0, .slice none 0 0] 28)).heap.size = w.heap.size + 1 := by simp
  have HSZ := Lib.hid hsz
  have d0 : decide ((m : Int) < 1) = false := decide_eq_false (by omega)
  have d1 : decide ((7 : Int) < (m : Int)) = false := decide_eq_false (by omega)
  clear hE0 hsz
  go_enter Tryz.func15, Tryz.ntmps15
  go_wp2_with fail
  generalize w.alloc (.cells #[.int .i64 0, .slice none 0 0, .slice none 0 0] 28) = w0 at *
  refine (pairs_any m 60 #[] w0).mono ?_
  rintro _ w1 ⟨rfl, hw1⟩
  dsimp only
  have hE1 : Ext w0 w1 := by rw [hw1]; exact ((Ext.refl _).alloc _).alloc _
  have HE1 := Lib.hid hE1
  have b0 : w1.cell? ⟨w0.heap.size, 0, none⟩ = some (.int .i64 (m : Int)) := by
    rw [hw1]
    exact ((Bx1.new w0 (.int .i64 (m : Int)) 3).ext ((Ext.refl _).alloc _)).c
  have b1 : w1.cell? ⟨w0.heap.size + 1, 0, none⟩ = some (.func (.func 60) #[] #[]) := by
    rw [hw1]
    exact ((Bx1.new (w0.alloc (.cells #[.int .i64 (m : Int)] 3)) (.func (.func 60) #[] #[]) 75).at (b' := w0.heap.size + 1) (by simp)).c
  have HC := Lib.hid (collect_any w0.heap.size (w0.heap.size + 1) m 60 [] numP (by omega) w1 b0 b1 cf_num1 fun W' x y _ hx hy => num1_any x y (by omega) (by omega) W')
  clear hw1 hE1 b0 b1
  go_wp2_with fail
  refine HC.out.mono ?_
  rintro _ w2 ⟨la, lc, rfl, hrp, hE2⟩
  dsimp only
  have HRP := Lib.hid hrp
  have HE2 := Lib.hid (HE1.out.trans hE2)
  have hlo := hE2.size
  have HLO : Hid (w0.heap.size ≤ w1.heap.size) := Lib.hid HE1.out.size
  have hrp2 := hrp w2 fun _ _ _ => rfl
  have HTW := Lib.hid (two_any 3 62 [] numK (numL m) la lc w2 hrp2 (by decide) (numL_ok ⟨m, by omega⟩).1 (fun k hk => numL_at h7 hk) cf_num2 fun W a v _ ha hv => num2_any a (nth (numL m) v) ha W)
  have HM : Hid (twoM 3 (numL m) numK = numM m) := Lib.hid rfl
  rw [HM.out] at HTW
  have HNL : Hid (prAll m numP = numL m) := Lib.hid rfl
  rw [HNL.out]
  rw [HNL.out] at HRP
  clear hrp hE2 hrp2 HM HNL HC
  obtain ⟨A, hA⟩ : ∃ A, A = numM m := ⟨_, rfl⟩
  obtain ⟨L, hL⟩ : ∃ L, L = numL m := ⟨_, rfl⟩
  rw [← hA, ← hL] at HTW
  rw [← hL] at HRP ⊢
  have HAe := Lib.hid hA
  have HLe := Lib.hid hL
  clear hA hL
  go_wp2_with fail
  refine HTW.out.mono ?_
  rintro _ w9 ⟨va, ra, vc, rc, rfl, hka, hE9⟩
  have HKA := Lib.hid hka
  have HE9 := Lib.hid (HE2.out.trans hE9)
  have HX9 := Lib.hid hE9
  have HO9 := Lib.hid (HOR.out.ext HE9.out)
  obtain ⟨r0, r1, r2, rfz⟩ := HO9.out
  have f0 := rfz 0
  have f1 := rfz 1
  have f2 := rfz 2
  have rl := HO9.out.lt
  clear hka hE9 rfz
  dsimp only
  go_wp2_with fail
  have hs0 := HSZ.out
  have hs1 := HLO.out
  have hbk : ∀ k, k ≠ w.heap.size → (((w9.setCell ⟨w.heap.size, 0, none⟩ (.int .i64 A.worlds)).setCell ⟨w.heap.size, 1, none⟩ (.slice va A.val.length vc)).setCell ⟨w.heap.size, 2, none⟩ (.slice ra A.rel.length rc)).heap[k]? = w9.heap[k]? := fun k hne => by
    rw [heap_setCell_other _ _ _ _ (by simpa using hne), heap_setCell_other _ _ _ _ (by simpa using hne), heap_setCell_other _ _ _ _ (by simpa using hne)]
  have hkm : ∀ w'' : World, Agree w.heap.size (((w9.setCell ⟨w.heap.size, 0, none⟩ (.int .i64 A.worlds)).setCell ⟨w.heap.size, 1, none⟩ (.slice va A.val.length vc)).setCell ⟨w.heap.size, 2, none⟩ (.slice ra A.rel.length rc)) w'' → RM w'' va ra A := fun w'' ag => HKA.out w'' fun k hk hl => (ag k (by omega) (by simp only [World.setCell, Array.size_modify]; omega)).trans (hbk k (by omega))
  have hkr : ∀ w'' : World, Agree w.heap.size (((w9.setCell ⟨w.heap.size, 0, none⟩ (.int .i64 A.worlds)).setCell ⟨w.heap.size, 1, none⟩ (.slice va A.val.length vc)).setCell ⟨w.heap.size, 2, none⟩ (.slice ra A.rel.length rc)) w'' → RPe w'' la L := fun w'' ag => HRP.out w'' fun k hk hl => (ag k (by omega) (by simp only [World.setCell, Array.size_modify]; have := HX9.out.size; omega)).trans ((hbk k (by omega)).trans (HX9.out.block k hl))
  have hEx : Ext w (((w9.setCell ⟨w.heap.size, 0, none⟩ (.int .i64 A.worlds)).setCell ⟨w.heap.size, 1, none⟩ (.slice va A.val.length vc)).setCell ⟨w.heap.size, 2, none⟩ (.slice ra A.rel.length rc)) := ext_set3Z (HE.out.trans HE9.out) (by omega) _ _ _
  have ho : OutAt w9 w.heap.size (.int .i64 0) (.slice none 0 0) (.slice none 0 0) := HO9.out
  obtain ⟨e0, e1, e2, -⟩ := ((ho.set0 (.int .i64 A.worlds)).set1 (.slice va A.val.length vc)).set2 (.slice ra A.rel.length rc)
  generalize ((w9.setCell ⟨w.heap.size, 0, none⟩ (.int .i64 A.worlds)).setCell ⟨w.heap.size, 1, none⟩ (.slice va A.val.length vc)).setCell ⟨w.heap.size, 2, none⟩ (.slice ra A.rel.length rc) = W2 at *
  refine bodyPost_ret (v := .tuple #[.agg #[.int .i64 A.worlds, .slice va A.val.length vc, .slice ra A.rel.length rc], .slice la L.length lc, .int .i64 0]) ?_ rfl ?_
  · rw [results_cell_two rfl]
    go_simp
  · rw [← HAe.out, ← HLe.out]
    exact ⟨va, ra, la, vc, rc, lc, rfl, hkm, hkr, hEx⟩
theorem numbers_any (m : Nat) (h1 : 1 ≤ m) (h7 : m ≤ 7) (w : World) : Calls Tryz.prog 15 #[.int .i64 (m : Int)] w fun e w' => RetNm (numM m) (numL m) 0 e w w' := (numbers_own m h1 h7 w).mono fun _ _ h => h.nm
end Wt

/- Walks: slices.ContainsFunc over pairs; puzzles.Sums where it answers. -/
namespace Wt
open Go Go.RowKit Go.Maps Go.Proofs Fm

set_option maxHeartbeats 1000000 in
theorem indexFunc_p (F : Nat) (caps : List Value) (p : Nat × Nat → Bool) (a : Option Addr) (l : List (Nat × Nat)) (cap : Nat) (w : World) (hr : RPe w a l)
    (hF : ∀ args W, (callFunc F args).run Tryz.prog W = .ok (.enter F args) W)
    (hp : ∀ W s, Ext w W → Calls Tryz.prog F (.agg #[.int .i64 (s.1 : Int), .int .i64 (s.2 : Int)] :: caps).toArray W fun e w' => e = .returned (.bool (p s)) ∧ Ext W w') :
    Calls Tryz.prog 104 #[.slice a l.length cap, .func (.func F) #[] caps.toArray] w fun e w' => (∃ i : Int, e = .returned (.int .i64 i) ∧ decide (0 ≤ i) = l.any p) ∧ Ext w w' := by
  have hl := hr.len
  have Hp := Lib.hid hp
  clear hp
  go_enter Tryz.func104, Tryz.ntmps104
  go_wp2
  go_loopw [8] (fun i wr => ∃ k : Nat, k ≤ l.length ∧ i = .int .i64 k ∧ Ext w wr ∧ Hid (∀ j, j < k → p (nth l j) = false)) (fun i _ => l.length - (RowKit.intOf i).toNat)
  case atStart => exact ⟨0, Nat.zero_le _, rfl, Ext.refl _, fun _ h => absurd h (Nat.not_lt_zero _)⟩
  case round =>
    obtain ⟨k, hk, rfl, hE, hno⟩ := hrel
    by_cases hlt : k < l.length
    · obtain ⟨b, off, rfl, hb2, hc, hd⟩ := (hr.ext hE).get hlt
      go_wp2_with fail
      refine (Hp.out _ (nth l k) hE).mono ?_
      rintro e w1 ⟨rfl, hE1⟩
      cases hb : p (nth l k)
      all_goals have Hb := Lib.hid hb; clear hb
      · go_wp2
        go_roundw
        case rel => exact ⟨k + 1, hlt, by go_num, hE.trans hE1, lt_step hno Hb.out⟩
        case measure => simp [RowKit.intOf]; omega
      · go_wp2
        go_ret
        exact ⟨⟨k, rfl, by rw [any_yes hlt Hb.out]; simp⟩, hE.trans hE1⟩
    · go_wp2
      go_ret
      exact ⟨⟨-1, rfl, by rw [any_no (fun j hj => hno j (by omega))]; rfl⟩, hE⟩
set_option maxHeartbeats 1000000 in
theorem containsFunc_p (F : Nat) (caps : List Value) (p : Nat × Nat → Bool) (a : Option Addr) (l : List (Nat × Nat)) (cap : Nat) (w : World) (hr : RPe w a l)
    (hF : ∀ args W, (callFunc F args).run Tryz.prog W = .ok (.enter F args) W)
    (hp : ∀ W s, Ext w W → Calls Tryz.prog F (.agg #[.int .i64 (s.1 : Int), .int .i64 (s.2 : Int)] :: caps).toArray W fun e w' => e = .returned (.bool (p s)) ∧ Ext W w') :
    Calls Tryz.prog 65 #[.slice a l.length cap, .func (.func F) #[] caps.toArray] w fun e w' => e = .returned (.bool (l.any p)) ∧ Ext w w' := by
  have Hi := Lib.hid (indexFunc_p F caps p a l cap w hr hF hp)
  clear hF hp
  go_enter Tryz.func65, Tryz.ntmps65
  go_wp2_with (go_at_call 104; refine (Hi.out).mono ?_; rintro e w1 ⟨⟨i, rfl, hi⟩, hE⟩; have HI := Lib.hid hi; clear hi)
  go_ret
  exact ⟨by rw [← HI.out]; simp, hE⟩

def sumP (l m x y : Nat) : Bool := decide (l ≤ x) && decide (x < y) && decide (x + y ≤ m)
def sumL (l m : Nat) : List (Nat × Nat) := prAll m (sumP l m)
def sumK (a : Nat) (p : Nat × Nat) : Int := if a = 0 then ((p.1 + p.2 : Nat) : Int) else ((p.1 * p.2 : Nat) : Int)
def sumM (l m : Nat) : Mo := twoM 4 (sumL l m) sumK
def sumB (p : Nat × Nat) : Bool := decide (15 < p.2)
def sumE (l m : Nat) : Int := if 15 < l ∨ 30 < m then 2 else if sumL l m = [] then 6 else if 64 < (sumL l m).length ∨ (sumL l m).any sumB = true then 8 else 0
theorem cf_sum1 (args : Array Value) (W : World) : (callFunc 64 args).run Tryz.prog W = .ok (.enter 64 args) W := by
  simp [callFunc, Tryz.func64, Tryz.f64]
theorem cf_sum2 (args : Array Value) (W : World) : (callFunc 66 args).run Tryz.prog W = .ok (.enter 66 args) W := by
  simp [callFunc, Tryz.func66, Tryz.f66]
theorem cf_sum3 (args : Array Value) (W : World) : (callFunc 67 args).run Tryz.prog W = .ok (.enter 67 args) W := by
  simp [callFunc, Tryz.func67, Tryz.f67]
set_option maxRecDepth 20000 in
set_option maxHeartbeats 2000000 in
theorem sum1_any (l m x y b0 b1 : Nat) (hx : x ≤ 100) (hy : y ≤ 100) (w : World) (h0 : w.cell? ⟨b0, 0, none⟩ = some (.int .i64 (l : Int))) (h1 : w.cell? ⟨b1, 0, none⟩ = some (.int .i64 (m : Int))) : Calls Tryz.prog 64 (.int .i64 (x : Int) :: .int .i64 (y : Int) :: [.pointer (some ⟨b0, 0, none⟩), .pointer (some ⟨b1, 0, none⟩)]).toArray w fun e w' => e = .returned (.bool (sumP l m x y)) ∧ w = w' := by
  have hb0 := World.block_lt_of_cell? _ _ h0
  have hb1 := World.block_lt_of_cell? _ _ h1
  dsimp only at hb0 hb1
  unfold sumP
  by_cases c1 : l ≤ x
  · have d1 : decide ((l : Int) ≤ (x : Int)) = true := decide_eq_true (by omega)
    rw [decide_eq_true c1]
    by_cases c2 : x < y
    · have d2 : decide ((x : Int) < (y : Int)) = true := decide_eq_true (by omega)
      rw [decide_eq_true c2]
      by_cases c3 : x + y ≤ m
      · have d3 : decide ((x : Int) + (y : Int) ≤ (m : Int)) = true := decide_eq_true (by omega)
        rw [decide_eq_true c3]
        go_enter Tryz.func64, Tryz.ntmps64
        go_wp2_with fail
        go_ret
        exact ⟨rfl, rfl⟩
      · have d3 : decide ((x : Int) + (y : Int) ≤ (m : Int)) = false := decide_eq_false (by omega)
        rw [decide_eq_false c3]
        go_enter Tryz.func64, Tryz.ntmps64
        go_wp2_with fail
        go_ret
        exact ⟨rfl, rfl⟩
    · have d2 : decide ((x : Int) < (y : Int)) = false := decide_eq_false (by omega)
      rw [decide_eq_false c2]
      go_enter Tryz.func64, Tryz.ntmps64
      go_wp2_with fail
      go_ret
      exact ⟨rfl, rfl⟩
  · have d1 : decide ((l : Int) ≤ (x : Int)) = false := decide_eq_false (by omega)
    rw [decide_eq_false c1]
    go_enter Tryz.func64, Tryz.ntmps64
    go_wp2_with fail
    go_ret
    exact ⟨rfl, rfl⟩
set_option maxHeartbeats 1000000 in
theorem sum2_any (p : Nat × Nat) (w : World) : Calls Tryz.prog 66 (.agg #[.int .i64 (p.1 : Int), .int .i64 (p.2 : Int)] :: ([] : List Value)).toArray w fun e w' => e = .returned (.bool (sumB p)) ∧ Ext w w' := by
  obtain ⟨x, y⟩ := p
  unfold sumB
  dsimp only
  have d : decide ((15 : Int) < (y : Int)) = decide (15 < y) := decide_eq_decide.2 (by omega)
  go_enter Tryz.func66, Tryz.ntmps66
  go_wp2_with fail
  go_ret
  exact ⟨by rw [← d]; rfl, (Ext.refl w).alloc _⟩
set_option maxHeartbeats 1000000 in
theorem sum3_any (a : Nat) (p : Nat × Nat) (ha : a < 2) (hp : p.1 ≤ 100 ∧ p.2 ≤ 100) (w : World) : Calls Tryz.prog 67 (.int .i64 (a : Int) :: .agg #[.int .i64 (p.1 : Int), .int .i64 (p.2 : Int)] :: ([] : List Value)).toArray w fun e w' => e = .returned (.int .i64 (sumK a p)) ∧ Ext w w' := by
  obtain ⟨x, y⟩ := p
  dsimp only at hp ⊢
  obtain ⟨hx, hy⟩ := hp
  have hmul : x * y ≤ 100 * 100 := Nat.mul_le_mul hx hy
  have hm1 : (0 : Int) ≤ (x : Int) * (y : Int) := by rw [← Int.natCast_mul]; omega
  have hm2 : (x : Int) * (y : Int) ≤ 10000 := by rw [← Int.natCast_mul]; omega
  rcases (show a = 0 ∨ a = 1 by omega) with rfl | rfl
  · go_enter Tryz.func67, Tryz.ntmps67
    go_wp2_with fail
    go_ret
    exact ⟨by simp [sumK], (Ext.refl w).alloc _⟩
  · go_enter Tryz.func67, Tryz.ntmps67
    go_wp2_with fail
    go_ret
    exact ⟨by simp [sumK], (Ext.refl w).alloc _⟩
end Wt

/- Walk: puzzles.Sums where it answers. -/
namespace Wt
open Go Go.RowKit Go.Maps Go.Proofs Fm

theorem prAll_mem {m : Nat} {P : Nat → Nat → Bool} {p : Nat × Nat} (h : p ∈ prAll m P) : P p.1 p.2 = true := by
  unfold prAll prL at h
  exact (List.mem_filter.1 h).2
theorem sumE_ok {l m : Nat} (h : sumE l m = 0) : l ≤ 15 ∧ m ≤ 30 ∧ sumL l m ≠ [] ∧ (sumL l m).length ≤ 64 ∧ (sumL l m).any sumB = false ∧ ∀ p ∈ sumL l m, p.1 < 2 ^ 4 ∧ p.2 < 2 ^ 4 := by
  unfold sumE at h
  split at h
  · cases h
  next h1 =>
  split at h
  · cases h
  next h2 =>
  split at h
  · cases h
  next h3 =>
  have h4 : (sumL l m).any sumB = false := by
    cases hb : (sumL l m).any sumB
    · rfl
    · exact absurd (.inr hb) h3
  refine ⟨by omega, by omega, h2, by omega, h4, fun p hp => ?_⟩
  have h5 := List.any_eq_false.1 h4 p hp
  have h6 := prAll_mem hp
  unfold sumB at h5
  unfold sumP at h6
  simp only [Bool.and_eq_true, decide_eq_true_eq] at h5 h6
  omega
set_option maxRecDepth 20000 in
set_option maxHeartbeats 8000000 in
theorem sums_own (l m : Nat) (hok : sumE l m = 0) (w : World) : Calls Tryz.prog 18 #[.int .i64 (l : Int), .int .i64 (m : Int)] w fun e w' => RetNk (sumM l m) (sumL l m) 0 e w w' := by
  obtain ⟨hl, hm, hne, h64, hany, hpp⟩ := sumE_ok hok
  have hE3 : Ext w (((w.alloc (.cells #[.int .i64 (l : Int)] 3)).alloc (.cells #[.int .i64 (m : Int)] 3)).alloc (.cells #[.int .i64 0, .slice none 0 0, .slice none 0 0] 28)) := (((Ext.refl w).alloc _).alloc _).alloc _
  have HBL := Lib.hid ((Bx1.new w (.int .i64 (l : Int)) 3).ext (((Ext.refl _).alloc (.cells #[.int .i64 (m : Int)] 3)).alloc (.cells #[.int .i64 0, .slice none 0 0, .slice none 0 0] 28)))
  have HBM := Lib.hid (((Bx1.new (w.alloc (.cells #[.int .i64 (l : Int)] 3)) (.int .i64 (m : Int)) 3).ext ((Ext.refl _).alloc (.cells #[.int .i64 0, .slice none 0 0, .slice none 0 0] 28))).at (b' := w.heap.size + 1) (by simp))
  have HOR := Lib.hid (OutAt.new3 w (.cells #[.int .i64 (l : Int)] 3) (.cells #[.int .i64 (m : Int)] 3) (.int .i64 0) (.slice none 0 0) (.slice none 0 0) 28)
  have HE := Lib.hid hE3
  have HSZ : Hid ((((w.alloc (.cells #[.int .i64 (l : Int)] 3)).alloc (.cells #[.int .i64 (m : Int)] 3)).alloc (.cells #[.int .i64 0, .slice none 0 0, .slice none 0 0] 28)).heap.size = w.heap.size + 3) := Lib.hid (by simp)
  have d0 : decide ((l : Int) < 0) = false := decide_eq_false (by omega)
  have d1 : decide ((15 : Int) < (l : Int)) = false := decide_eq_false (by omega)
  have d2 : decide ((m : Int) < 0) = false := decide_eq_false (by omega)
  have d3 : decide ((30 : Int) < (m : Int)) = false := decide_eq_false (by omega)
  have HPP := Lib.hid hpp
  have HANY := Lib.hid hany
  have HNE := Lib.hid hne
  have H64 := Lib.hid h64
  obtain ⟨n0, n1⟩ : (((w.alloc (.cells #[.int .i64 (l : Int)] 3)).alloc (.cells #[.int .i64 (m : Int)] 3)).alloc (.cells #[.int .i64 0, .slice none 0 0, .slice none 0 0] 28)).cell? ⟨w.heap.size, 0, none⟩ = some (.int .i64 (l : Int)) ∧ (((w.alloc (.cells #[.int .i64 (l : Int)] 3)).alloc (.cells #[.int .i64 (m : Int)] 3)).alloc (.cells #[.int .i64 0, .slice none 0 0, .slice none 0 0] 28)).cell? ⟨w.heap.size + 1, 0, none⟩ = some (.int .i64 (m : Int)) := ⟨HBL.out.c, HBM.out.c⟩
  have nl := World.block_lt_of_cell? _ _ n1
  dsimp only at nl
  clear hE3 hpp hany hne h64 hok
  go_enter Tryz.func18, Tryz.ntmps18
  go_wp2_with fail
  generalize ((w.alloc (.cells #[.int .i64 (l : Int)] 3)).alloc (.cells #[.int .i64 (m : Int)] 3)).alloc (.cells #[.int .i64 0, .slice none 0 0, .slice none 0 0] 28) = w0 at *
  refine (pairs_any m 64 #[.pointer (some ⟨w.heap.size, 0, none⟩), .pointer (some ⟨w.heap.size + 1, 0, none⟩)] w0).mono ?_
  rintro _ w1 ⟨rfl, hw1⟩
  dsimp only
  have hE1 : Ext w0 w1 := by rw [hw1]; exact ((Ext.refl _).alloc _).alloc _
  have HE1 := Lib.hid hE1
  have b0 : w1.cell? ⟨w0.heap.size, 0, none⟩ = some (.int .i64 (m : Int)) := by
    rw [hw1]
    exact ((Bx1.new w0 (.int .i64 (m : Int)) 3).ext ((Ext.refl _).alloc _)).c
  have b1 : w1.cell? ⟨w0.heap.size + 1, 0, none⟩ = some (.func (.func 64) #[] #[.pointer (some ⟨w.heap.size, 0, none⟩), .pointer (some ⟨w.heap.size + 1, 0, none⟩)]) := by
    rw [hw1]
    exact ((Bx1.new (w0.alloc (.cells #[.int .i64 (m : Int)] 3)) (.func (.func 64) #[] #[.pointer (some ⟨w.heap.size, 0, none⟩), .pointer (some ⟨w.heap.size + 1, 0, none⟩)]) 75).at (b' := w0.heap.size + 1) (by simp)).c
  have HC := Lib.hid (collect_any w0.heap.size (w0.heap.size + 1) m 64 [.pointer (some ⟨w.heap.size, 0, none⟩), .pointer (some ⟨w.heap.size + 1, 0, none⟩)] (sumP l m) (by omega) w1 b0 b1 cf_sum1 fun W' x y h hx hy => sum1_any l m x y w.heap.size (w.heap.size + 1) (by omega) (by omega) W' ((HBL.out.ext HE1.out).ext h).c ((HBM.out.ext HE1.out).ext h).c)
  clear hw1 hE1 b0 b1 n0 n1 nl
  go_wp2_with fail
  refine HC.out.mono ?_
  rintro _ w2 ⟨la, lc, rfl, hrp, hE2⟩
  dsimp only
  have HRP := Lib.hid hrp
  have HE2 := Lib.hid (HE1.out.trans hE2)
  have HLO : Hid (w0.heap.size ≤ w1.heap.size) := Lib.hid HE1.out.size
  have hrp2 := hrp w2 fun _ _ _ => rfl
  have HCF := Lib.hid (containsFunc_p 66 [] sumB la (sumL l m) lc w2 hrp2 cf_sum2 fun W s _ => sum2_any s W)
  have HTW : Hid (∀ W, Ext w2 W → Calls Tryz.prog 61 #[.slice la (sumL l m).length lc, .int .i64 4, .func (.func 67) #[] #[]] W fun e w' => RetMA (twoM 4 (sumL l m) sumK) e W w') := Lib.hid fun W h => two_any 4 67 [] sumK (sumL l m) la lc W (hrp2.ext h) (by decide) H64.out (fun k hk => HPP.out _ (nth_mem hk)) cf_sum3 fun W a v _ ha hv => sum3_any a (nth (sumL l m) v) ha (by have := HPP.out _ (nth_mem hv); omega) W
  have HM : Hid (twoM 4 (sumL l m) sumK = sumM l m) := Lib.hid rfl
  rw [HM.out] at HTW
  have HNL : Hid (prAll m (sumP l m) = sumL l m) := Lib.hid rfl
  rw [HNL.out]
  rw [HNL.out] at HRP
  clear hrp hE2 hrp2 HM HNL HC
  have hcf := HCF.out
  rw [HANY.out] at hcf
  have HCF := Lib.hid hcf
  have hl0 : (((sumL l m).length : Int) == 0) = false := by
    have := HNE.out
    have h2 : (sumL l m).length ≠ 0 := fun e => this (List.eq_nil_of_length_eq_zero e)
    rw [beq_eq_false_iff_ne]; omega
  have hl64 : decide ((64 : Int) < ((sumL l m).length : Int)) = false := decide_eq_false (by have := H64.out; omega)
  obtain ⟨A, hA⟩ : ∃ A, A = sumM l m := ⟨_, rfl⟩
  obtain ⟨L, hL⟩ : ∃ L, L = sumL l m := ⟨_, rfl⟩
  rw [← hA, ← hL] at HTW
  rw [← hL] at HRP HCF hl0 hl64 ⊢
  have HAe := Lib.hid hA
  have HLe := Lib.hid hL
  clear hA hL hcf HANY HPP HNE H64
  go_wp2_with fail
  refine HCF.out.mono ?_
  rintro _ w3 ⟨rfl, hE3⟩
  dsimp only
  have HE3 := Lib.hid hE3
  clear hE3
  go_wp2_with fail
  refine (HTW.out _ HE3.out).mono ?_
  rintro _ w9 ⟨va, ra, vc, rc, rfl, hka, hE9⟩
  have HKA := Lib.hid hka
  have HX9 := Lib.hid (HE3.out.trans hE9)
  have HE9 := Lib.hid (HE2.out.trans HX9.out)
  have HO9 := Lib.hid (HOR.out.ext HE9.out)
  have HS3 : Hid (w2.heap.size ≤ w3.heap.size) := Lib.hid HE3.out.size
  have HXB : Hid (Ext w9 (w9.alloc (.cells #[.int .i64 A.worlds, .slice va A.val.length vc, .slice ra A.rel.length rc] 28))) := Lib.hid ((Ext.refl _).alloc _)
  obtain ⟨r0, r1, r2, rfz⟩ := HO9.out.ext HXB.out
  have f0 := rfz 0
  have f1 := rfz 1
  have f2 := rfz 2
  have rl := (HO9.out.ext HXB.out).lt
  obtain ⟨x0, x1, x2, -⟩ := OutAt.new w9 (.int .i64 A.worlds) (.slice va A.val.length vc) (.slice ra A.rel.length rc) 28
  clear hka hE9 rfz
  dsimp only
  go_wp2_with fail
  generalize hwB : w9.alloc (.cells #[.int .i64 A.worlds, .slice va A.val.length vc, .slice ra A.rel.length rc] 28) = wB at *
  clear hwB
  have hs0 := HSZ.out
  have hs1 := HLO.out
  have hs3 := HS3.out
  have hs4 := HE2.out.size
  have hbk : ∀ k, k ≠ w.heap.size + 1 + 1 → (((wB.setCell ⟨w.heap.size + 1 + 1, 0, none⟩ (.int .i64 A.worlds)).setCell ⟨w.heap.size + 1 + 1, 1, none⟩ (.slice va A.val.length vc)).setCell ⟨w.heap.size + 1 + 1, 2, none⟩ (.slice ra A.rel.length rc)).heap[k]? = wB.heap[k]? := fun k hne => by
    rw [heap_setCell_other _ _ _ _ (by simpa using hne), heap_setCell_other _ _ _ _ (by simpa using hne), heap_setCell_other _ _ _ _ (by simpa using hne)]
  have hkm : ∀ w'' : World, Agree w.heap.size (((wB.setCell ⟨w.heap.size + 1 + 1, 0, none⟩ (.int .i64 A.worlds)).setCell ⟨w.heap.size + 1 + 1, 1, none⟩ (.slice va A.val.length vc)).setCell ⟨w.heap.size + 1 + 1, 2, none⟩ (.slice ra A.rel.length rc)) w'' → RM w'' va ra A := fun w'' ag => HKA.out w'' fun k hk hl => (ag k (by omega) (by simp only [World.setCell, Array.size_modify]; have := HXB.out.size; omega)).trans ((hbk k (by omega)).trans (HXB.out.block k hl))
  have hkr : ∀ w'' : World, Agree w.heap.size (((wB.setCell ⟨w.heap.size + 1 + 1, 0, none⟩ (.int .i64 A.worlds)).setCell ⟨w.heap.size + 1 + 1, 1, none⟩ (.slice va A.val.length vc)).setCell ⟨w.heap.size + 1 + 1, 2, none⟩ (.slice ra A.rel.length rc)) w'' → RPe w'' la L := fun w'' ag => HRP.out w'' fun k hk hl => (ag k (by omega) (by simp only [World.setCell, Array.size_modify]; have := HX9.out.size; have := HXB.out.size; omega)).trans ((hbk k (by omega)).trans ((HX9.out.trans HXB.out).block k hl))
  have hEx : Ext w (((wB.setCell ⟨w.heap.size + 1 + 1, 0, none⟩ (.int .i64 A.worlds)).setCell ⟨w.heap.size + 1 + 1, 1, none⟩ (.slice va A.val.length vc)).setCell ⟨w.heap.size + 1 + 1, 2, none⟩ (.slice ra A.rel.length rc)) := ext_set3Z ((HE.out.trans HE9.out).trans HXB.out) (by omega) _ _ _
  have ho : OutAt wB (w.heap.size + 1 + 1) (.int .i64 0) (.slice none 0 0) (.slice none 0 0) := HO9.out.ext HXB.out
  obtain ⟨e0, e1, e2, -⟩ := ((ho.set0 (.int .i64 A.worlds)).set1 (.slice va A.val.length vc)).set2 (.slice ra A.rel.length rc)
  generalize ((wB.setCell ⟨w.heap.size + 1 + 1, 0, none⟩ (.int .i64 A.worlds)).setCell ⟨w.heap.size + 1 + 1, 1, none⟩ (.slice va A.val.length vc)).setCell ⟨w.heap.size + 1 + 1, 2, none⟩ (.slice ra A.rel.length rc) = W2 at *
  refine bodyPost_ret (v := .tuple #[.agg #[.int .i64 A.worlds, .slice va A.val.length vc, .slice ra A.rel.length rc], .slice la L.length lc, .int .i64 0]) ?_ rfl ?_
  · rw [results_cell_two rfl]
    go_simp
  · rw [← HAe.out, ← HLe.out]
    exact ⟨va, ra, la, vc, rc, lc, rfl, hkm, hkr, hEx⟩
theorem sums_any (l m : Nat) (hok : sumE l m = 0) (w : World) : Calls Tryz.prog 18 #[.int .i64 (l : Int), .int .i64 (m : Int)] w fun e w' => RetNm (sumM l m) (sumL l m) 0 e w w' := (sums_own l m hok w).mono fun _ _ h => h.nm
end Wt

/- Walks: slices.Clone and slices.Contains at ints; plain: the deals of cards. -/
namespace Wt
open Go Go.RowKit Go.Maps Go.Proofs Fm

theorem RI.newsZ {w : World} {a : Addr} {l : List Int} (h : RI w (some a) l) : ∀ j u, (l.map iv)[j]? = some u → w.cell? (a.add j) = some u := by
  intro j u hj
  rw [List.getElem?_map] at hj
  by_cases hjl : j < l.length
  · obtain ⟨b, off, e, hc⟩ := h.at_ j hjl
    simp only [Option.some.injEq] at e
    subst e
    simp [hjl] at hj
    rw [← hj, Addr.add_lit, hc, nth_eq l j hjl]; rfl
  · simp [hjl] at hj
theorem iv_oneZ (l : List Int) : ∀ u ∈ l.map iv, u.oneCell' = true := by
  intro u hu
  obtain ⟨s, _, rfl⟩ := List.mem_map.1 hu
  rfl
set_option maxRecDepth 20000 in
set_option maxHeartbeats 1000000 in
theorem clone_i (a : Option Addr) (c : Nat) (l : List Int) (w : World) (hr : RI w a l) (hl : l.length ≤ 1000) :
    Calls Tryz.prog 105 #[.slice a l.length c] w fun e w' => (∃ v, e = .returned v ∧ w'.ownsRow w.heap.size 3 1 v l.length (l.map iv)) ∧ Ext w w' := by
  obtain ⟨i0, hi1, hz0, hz1, hz2⟩ := info_parts int_info
  have hne := fun (W : World) (x : Option Addr) (n c : Nat) => Lib.run_eql_slice_nil (P := Tryz.prog) W 22 3 x n c 0 0 Tryz.underlying22
  cases a with
  | none =>
    have h0 : l = [] := by
      cases l with
      | nil => rfl
      | cons x l => obtain ⟨b, off, e, _⟩ := hr.at_ 0 (by simp); cases e
    subst h0
    clear hr
    go_enter Tryz.func105, Tryz.ntmps105
    go_wp2_with fail
    go_ret
    exact ⟨⟨_, rfl, World.ownsRow_nil _ _ _ _⟩, Ext.refl _⟩
  | some a =>
    have HN := Lib.hid hr.newsZ
    have HO := Lib.hid (iv_oneZ l)
    clear hr
    go_enter Tryz.func105, Tryz.ntmps105
    go_wp2_with (at_builtin; refine wpList_append_own_at _ rfl _ _ 22 rfl w.heap.size 3 i0 _ 1 8 Tryz.underlying22 hi1 hz0 hz1 hz2 rfl (by decide) _ 0 [] rfl ?c0 a l.length c (l.map iv) rfl ?c6 ?c1 HO.out ?c3 ?c4 ?c5 ?_)
    case c0 => exact World.ownsRow_made w #[] 0 (Nat.le_refl _) (by unfold maxLen; omega) rfl
    case c6 => simp
    case c1 => exact fun j u h => ((Ext.refl w).alloc _).cell (HN.out j u h)
    case c3 => unfold maxLen; omega
    case c4 => omega
    case c5 => simp
    intro v' W1 hown hgr _ _
    have hE : Ext w W1 := Below.grown ((Ext.refl w).alloc _) hgr (Ext.size ((Ext.refl w).alloc _)) (fun k hk => by simp [Value.ownBlock] at hk; omega)
    clear hgr
    go_wp2
    go_ret
    exact ⟨⟨v', rfl, by simpa using hown⟩, hE⟩
theorem posI_mem (l : List Nat) (x : Nat) : decide (0 ≤ posI l (x : Int)) = l.contains x := by
  unfold posI
  cases h : l.findIdx? (fun n : Nat => (n : Int) == (x : Int)) with
  | some i =>
    obtain ⟨h1, h2, _⟩ := List.findIdx?_eq_some_iff_getElem.1 h
    have h3 : l[i] = x := Int.ofNat.inj (by simpa using h2)
    have : l.contains x = true := by rw [List.contains_iff_mem, ← h3]; exact List.getElem_mem h1
    rw [this]
    simp
  | none =>
    have h1 := List.findIdx?_eq_none_iff.1 h
    have : l.contains x = false := by
      cases hc : l.contains x
      · rfl
      · have := h1 x (List.contains_iff_mem.1 hc)
        simp at this
    rw [this]
    rfl
set_option maxHeartbeats 1000000 in
theorem contains_i (l : List Nat) (x : Nat) (a : Option Addr) (c : Nat) (w : World) (hr : RI w a (natI l)) :
    Calls Tryz.prog 106 #[.slice a l.length c, .int .i64 (x : Int)] w fun e w' => e = .returned (.bool (l.contains x)) ∧ w = w' := by
  have HI := Lib.hid (index_any l (x : Int) a c w hr)
  have HP := Lib.hid (posI_mem l x)
  obtain ⟨p, hp⟩ : ∃ p, p = posI l (x : Int) := ⟨_, rfl⟩
  rw [← hp] at HI HP
  clear hp
  rw [← HP.out]
  go_enter Tryz.func106, Tryz.ntmps106
  go_wp2_with fail
  refine HI.out.mono ?_
  rintro _ w1 ⟨rfl, rfl⟩
  dsimp only
  go_wp2_with fail
  go_ret
  exact ⟨rfl, rfl⟩
/-- The deals that begin with s: n cards are still to be dealt, of c cards. -/
def dealL (c : Nat) : Nat → List Nat → List (List Nat)
  | 0, s => [s]
  | n + 1, s => ((List.range c).filter fun x => !s.contains x).flatMap fun x => dealL c n (s ++ [x])
end Wt

/- Deals in memory; walk: puzzles.deals. -/
namespace Wt
open Go Go.RowKit Go.Maps Go.Proofs Fm

/-- Rows of ints that the call has made. -/
structure DK (W0 : World) (L : List (List Nat)) (svs : List Value) (v : Value) (w : World) : Prop where
  e : Ext W0 w
  len : svs.length = L.length
  own : w.ownsRow W0.heap.size 22 1 v svs.length svs
  rw : ∀ j, j < L.length → w.ownsRow W0.heap.size 3 1 (nth svs j) (nth L j).length ((natI (nth L j)).map iv)
theorem own_base {w : World} {B B' T sz n : Nat} {v : Value} {xs : List Value} (h : w.ownsRow B T sz v n xs) (hb : B' ≤ B) : w.ownsRow B' T sz v n xs := by
  refine ⟨h.1, ?_⟩
  rcases h.2 with h1 | ⟨g, cap, cur, h1, h2, h3⟩
  · exact .inl h1
  · exact .inr ⟨g, cap, cur, h1, Nat.le_trans hb h2, h3⟩
section
variable {W0 w w' W1 : World} {L M : List (List Nat)} {svs tvs : List Value} {v v' : Value}
theorem DK.nil (W0 w : World) (e : Ext W0 w) : DK W0 [] [] (.slice none 0 0) w := ⟨e, rfl, World.ownsRow_nil _ _ _ _, fun j hj => absurd hj (by simp)⟩
theorem DK.ext' (h : DK W0 L svs v w) (e : Ext w w') : DK W0 L svs v w' := by
  have hk : ∀ {T sz m : Nat} {v : Value} {xs : List Value}, w.ownsRow W0.heap.size T sz v m xs → w'.ownsRow W0.heap.size T sz v m xs := fun {_ _ _ v _} ho => ho.kept (row := none) ⟨e.os, e.tape, e.output, e.size, fun k hk _ => e.block k hk⟩ (by cases v.ownBlock <;> simp)
  exact ⟨h.e.trans e, h.len, hk h.own, fun j hj => hk (h.rw j hj)⟩
theorem DK.append (h : DK W0 L svs v w) (htl : tvs.length = M.length) (hrw : ∀ j, j < M.length → w.ownsRow W0.heap.size 3 1 (nth tvs j) (nth M j).length ((natI (nth M j)).map iv)) (ho : W1.ownsRow W0.heap.size 22 1 v' (svs.length + tvs.length) (svs ++ tvs)) (g : w.grownBy W1 v.ownBlock) : DK W0 (L ++ M) (svs ++ tvs) v' W1 := by
  have hr : ∀ k, v.ownBlock = some k → W0.heap.size ≤ k := fun k hk => (h.own.lt k hk).1
  have hk : ∀ {m : Nat} {u : Value} {xs : List Value}, w.ownsRow W0.heap.size 3 1 u m xs → W1.ownsRow W0.heap.size 3 1 u m xs := fun ho => ho.kept g (own_ne ho h.own (by decide))
  refine ⟨Below.grown h.e g h.e.size (fun k hk => hr k hk), by simp [h.len, htl], by rw [List.length_append]; exact ho, fun j hj => ?_⟩
  by_cases hj2 : j < L.length
  · rw [nth_appL _ _ (by rw [h.len]; exact hj2), nth_appL _ _ hj2]; exact hk (h.rw j hj2)
  · obtain ⟨i, rfl⟩ : ∃ i, j = L.length + i := ⟨j - L.length, by omega⟩
    have hi : i < M.length := by simp at hj; omega
    have e1 := nth_appR svs tvs (k := i) (by omega)
    have e2 := nth_appR L M (k := i) hi
    rw [h.len] at e1
    rw [e1, e2]; exact hk (hrw i hi)
end
/-- Deals that the call has made. -/
def RetDk (L : List (List Nat)) (e : Ending) (w w' : World) : Prop := ∃ svs v, e = .returned v ∧ DK w L svs v w'
theorem rowi_info : (Tryz.prog.info? 22).map (fun i => (i.zero, i.size, i.bytes)) = some (some (.slice none 0 0), 1, 24) := by kernel_rfl
set_option maxRecDepth 20000 in
set_option maxHeartbeats 4000000 in
theorem deals_zero (s : List Nat) (a : Option Addr) (c : Nat) (cards : Int) (w : World) (hs : s.length ≤ 100) (hr : RI w a (natI s)) :
    Calls Tryz.prog 68 #[.slice a s.length c, .int .i64 (s.length : Int), .int .i64 cards] w fun e w' => RetDk [s] e w w' := by
  have hnl : (natI s).length = s.length := by simp [natI]
  have hcl := clone_i a c (natI s) w hr (by omega)
  rw [hnl] at hcl
  have HCL := Lib.hid hcl
  clear hcl hr
  go_enter Tryz.func68, Tryz.ntmps68
  go_wp2_with fail
  refine HCL.out.mono ?_
  rintro _ w1 ⟨⟨v, rfl, ho⟩, hE⟩
  obtain ⟨a2, c2, rfl⟩ : ∃ a2 c2, v = .slice a2 s.length c2 := by
    have ho2 := ho
    rw [← hnl] at ho2
    obtain ⟨a2, c2, e, -⟩ := RI_of_own ho2 (by omega)
    exact ⟨a2, c2, by rw [e, hnl]⟩
  have HO := Lib.hid ho
  have HE := Lib.hid hE
  clear ho hE
  dsimp only
  go_wp2_with fail
  go_ret
  refine ⟨[.slice a2 s.length c2], _, rfl, HE.out.alloc _, rfl, ?_, fun j hj => ?_⟩
  · exact ⟨rfl, .inr ⟨w1.heap.size, 1, #[.slice a2 s.length c2], rfl, HE.out.size, World.alloc_heap_new w1 _, Nat.le_refl _, by unfold maxLen; omega, rfl, rfl⟩⟩
  · obtain rfl : j = 0 := by simp at hj; omega
    show World.ownsRow _ _ _ _ (.slice a2 s.length c2) s.length ((natI s).map iv)
    exact HO.out.kept (row := none) ⟨rfl, rfl, rfl, ((Ext.refl w1).alloc _).size, fun k hk _ => ((Ext.refl w1).alloc _).block k hk⟩ (by cases a2 <;> simp [Value.ownBlock])
/-- The deals of the first k cards. -/
def dealK (C n : Nat) (s : List Nat) (k : Nat) : List (List Nat) := ((List.range k).filter fun x => !s.contains x).flatMap fun x => dealL C n (s ++ [x])
theorem dealK_step (C n : Nat) (s : List Nat) (k : Nat) : dealK C n s (k + 1) = dealK C n s k ++ if s.contains k = true then [] else dealL C n (s ++ [k]) := by
  unfold dealK
  rw [List.range_succ, List.filter_append, List.flatMap_append]
  congr 1
  cases h : s.contains k
  · have h2 : (!s.contains k) = true := by rw [h]; rfl
    rw [List.filter_cons_of_pos (p := fun x => !s.contains x) h2]
    simp
  · have h2 : ¬ (!s.contains k) = true := by rw [h]; decide
    rw [List.filter_cons_of_neg (p := fun x => !s.contains x) h2]
    simp
theorem dealL_le : ∀ (C n : Nat) (s : List Nat), (dealL C n s).length ≤ C ^ n
  | C, 0, s => by simp [dealL]
  | C, n + 1, s => by
    have h : ∀ k, (dealK C n s k).length ≤ k * C ^ n := fun k => by
      induction k with
      | zero => simp [dealK]
      | succ k ih =>
        rw [dealK_step, List.length_append, Nat.succ_mul]
        have := dealL_le C n (s ++ [k])
        split
        · simp; omega
        · omega
    rw [Nat.pow_succ, Nat.mul_comm]
    exact h C
theorem dealK_le (C n : Nat) (s : List Nat) (k : Nat) : (dealK C n s k).length ≤ k * C ^ n := by
  induction k with
  | zero => simp [dealK]
  | succ k ih =>
    rw [dealK_step, List.length_append, Nat.succ_mul]
    have := dealL_le C n (s ++ [k])
    split
    · simp; omega
    · omega
theorem DK.one {W0 w : World} {L : List (List Nat)} {svs : List Value} {v : Value} (h : DK W0 L svs v w) : ∀ u ∈ svs, u.oneCell' = true := by
  intro u hu
  obtain ⟨j, hj, rfl⟩ := List.mem_iff_getElem.1 hu
  have h1 := h.rw j (by rw [← h.len]; exact hj)
  rw [nth_eq svs j hj] at h1
  rcases h1.2 with ⟨e, _⟩ | ⟨g, cap, cur, e, _⟩ <;> rw [e] <;> rfl
theorem DK.cases {W0 w : World} {L : List (List Nat)} {svs : List Value} {v : Value} (h : DK W0 L svs v w) : (v = .slice none 0 0 ∧ svs = [] ∧ L = []) ∨ ∃ g cap, v = .slice (some ⟨g, 0, none⟩) svs.length cap ∧ svs.length ≤ cap ∧ ∀ j u, svs[j]? = some u → w.cell? ((⟨g, 0, none⟩ : Addr).add j) = some u := by
  rcases h.own.2 with ⟨rfl, h0⟩ | ⟨g, cap, cur, rfl, hb, hg, hnc, hcm, hcs, htake⟩
  · exact .inl ⟨rfl, List.eq_nil_of_length_eq_zero h0, List.eq_nil_of_length_eq_zero (by rw [← h.len]; exact h0)⟩
  · refine .inr ⟨g, cap, rfl, hnc, fun j u hj => ?_⟩
    rw [Addr.add_lit, cell_of_row w g _ cur _ (0, 0) hg, Nat.zero_add]
    rw [← htake, List.getElem?_take] at hj
    split at hj
    · simpa using hj
    · cases hj
set_option maxRecDepth 20000 in
set_option maxHeartbeats 8000000 in
theorem deals_any (C : Nat) (hC : C ≤ 4) : ∀ (n : Nat) (s : List Nat) (a : Option Addr) (c P : Nat) (w : World), P = s.length + n → P ≤ 4 → RI w a (natI s) →
    Calls Tryz.prog 68 #[.slice a s.length c, .int .i64 (P : Int), .int .i64 (C : Int)] w fun e w' => RetDk (dealL C n s) e w w'
  | 0, s, a, c, P, w, hP, h4, hr => by
    obtain rfl : P = s.length := by omega
    exact deals_zero s a c C w (by omega) hr
  | n + 1, s, a, c, P, w, hP, h4, hr => by
    have IH := Lib.hid (deals_any C hC n)
    have HR := Lib.hid hr
    have HP := Lib.hid hP
    have hq : ((s.length : Int) == (P : Int)) = false := by rw [beq_eq_false_iff_ne]; omega
    have hsl : s.length ≤ 4 := by omega
    clear hr hP
    go_enter Tryz.func68, Tryz.ntmps68
    go_wp2_with fail
    go_loopw [7, 17] (fun v i wr => ∃ k : Nat, k ≤ C ∧ i = .int .i64 (k : Int) ∧ Hid (∃ svs, DK w (dealK C n s k) svs v wr)) (fun _ i _ => C + 1 - (RowKit.intOf i).toNat)
    case atStart => exact ⟨0, Nat.zero_le _, rfl, Lib.hid ⟨[], DK.nil w w (Ext.refl _)⟩⟩
    case round =>
      obtain ⟨k, hk, rfl, HD⟩ := hrel
      obtain ⟨svs, hd⟩ := HD.out
      have HDK := Lib.hid hd
      clear hd HD
      by_cases hkC : k < C
      · have HCO := Lib.hid (contains_i s k a c wr (HR.out.ext HDK.out.e))
        cases hb : s.contains k
        · have HN : Hid (dealK C n s (k + 1) = dealK C n s k ++ dealL C n (s ++ [k])) := Lib.hid (by rw [dealK_step, hb]; rfl)
          rw [hb] at HCO
          have hnl : (natI s).length = s.length := by simp [natI]
          have hcl := clone_i a c (natI s) wr (HR.out.ext HDK.out.e) (by omega)
          rw [hnl] at hcl
          have HCL := Lib.hid hcl
          clear hb hcl
          go_wp2_with fail
          refine HCO.out.mono ?_
          rintro _ _ ⟨rfl, rfl⟩
          dsimp only
          go_wp2_with fail
          refine HCL.out.mono ?_
          rintro _ w1 ⟨⟨v, rfl, ho⟩, hE⟩
          have HO := Lib.hid ho
          have HE := Lib.hid hE
          clear ho hE HCL HCO
          dsimp only
          have HOA : Hid (∀ o, (w1.alloc o).ownsRow wr.heap.size 3 1 v s.length ((natI s).map iv)) := Lib.hid fun o => HO.out.kept (row := none) ⟨rfl, rfl, rfl, ((Ext.refl w1).alloc o).size, fun k hk _ => ((Ext.refl w1).alloc o).block k hk⟩ (by cases v.ownBlock <;> simp)
          have hsz : wr.heap.size ≤ w1.heap.size := HE.out.size
          have HONE : Hid (∀ u ∈ [Value.int .i64 (k : Int)], u.oneCell' = true) := Lib.hid (by simp [Value.oneCell'])
          obtain ⟨i0, hi1, hz0, hz1, hz2⟩ := info_parts int_info
          go_wp2_with (at_builtin; refine wpList_append_lies _ rfl _ _ 22 rfl wr.heap.size 3 i0 _ 1 8 Tryz.underlying22 hi1 hz0 hz1 hz2 rfl (by decide) v s.length ((natI s).map iv) rfl (HOA.out _) ⟨w1.heap.size, 0, none⟩ 1 1 [.int .i64 (k : Int)] rfl rfl (cell_one_new _ _ _) HONE.out (by decide) (by unfold maxLen; omega) (by omega) (Nat.le_trans hsz (by simp)) (w1.heap.size + 1) (by simp) ?_; intro gx cap W1 hown hgrow hat hlt2; have HOW := Lib.hid hown; have HGR := Lib.hid hgrow; clear hown hgrow hat)
          have hri : RI W1 (some ⟨gx, 0, none⟩) (natI (s ++ [k])) := by
            have e : natI (s ++ [k]) = natI s ++ [((k : Nat) : Int)] := by simp [natI]
            have e2 : (natI (s ++ [k])).length = s.length + 1 := by simp [natI]
            obtain ⟨a3, c3, h3, h4⟩ := RI_of_own (wr := W1) (B := wr.heap.size) (l := natI (s ++ [k])) (v := .slice (some ⟨gx, 0, none⟩) (s.length + 1) cap) (by rw [e2, e, List.map_append]; exact HOW.out) (by rw [e2]; omega)
            injection h3 with h5
            rw [h5]
            exact h4
          have hXW : Ext wr W1 := ext_of_grown (HE.out.alloc _) HGR.out fun b hb => (HO.out.lt b hb).1
          have hih := IH.out (s ++ [k]) (some ⟨gx, 0, none⟩) cap P W1 (by rw [HP.out]; simp; omega) h4 hri
          rw [show (s ++ [k]).length = s.length + 1 by simp] at hih
          have HIH := Lib.hid hih
          have HXW := Lib.hid hXW
          have HL1 : Hid (svs.length ≤ 256 ∧ (dealL C n (s ++ [k])).length ≤ 64) := Lib.hid (by
            have hn : n ≤ 3 := by have := HP.out; omega
            have h1 : C ^ n ≤ 4 ^ n := Nat.pow_le_pow_left hC n
            have h2 : 4 ^ n ≤ 4 ^ 3 := Nat.pow_le_pow_right (by omega) hn
            have h3 := dealK_le C n s k
            have h5 := dealL_le C n (s ++ [k])
            have h6 : k * C ^ n ≤ 4 * 64 := Nat.mul_le_mul (by omega) (by omega)
            rw [HDK.out.len]
            omega)
          clear hih hri hXW HOW HGR HO HOA HONE hlt2
          generalize dealL C n (s ++ [k]) = M at *
          refine HIH.out.mono ?_
          rintro _ w2 ⟨tvs, v2, rfl, hd2⟩
          have HD2 := Lib.hid hd2
          have HDW := Lib.hid (HDK.out.ext' (HXW.out.trans hd2.e))
          have HBB : Hid (w.heap.size ≤ W1.heap.size) := Lib.hid (Nat.le_trans HDK.out.e.size HXW.out.size)
          rcases hd2.cases with ⟨rfl, rfl, rfl⟩ | ⟨g2, cap2, rfl, -, hnews⟩
          · clear hd2
            dsimp only
            have HNE : Hid (dealK C n s (k + 1) = dealK C n s k) := Lib.hid (by rw [HN.out, List.append_nil])
            rcases HDW.out.cases with ⟨rfl, -, -⟩ | ⟨g7, cap7, rfl, hcap, -⟩
            · go_wp2_with fail
              go_roundw
              case rel => exact ⟨k + 1, hkC, by go_num, Lib.hid ⟨svs, by rw [HNE.out]; exact HDW.out⟩⟩
              case measure => simp [RowKit.intOf]; omega
            · go_wp2_with fail
              go_roundw
              case rel => exact ⟨k + 1, hkC, by go_num, Lib.hid ⟨svs, by rw [HNE.out]; exact HDW.out⟩⟩
              case measure => simp [RowKit.intOf]; omega
          · have HNW := Lib.hid hnews
            clear hd2 hnews
            obtain ⟨i2, hj1, hy0, hy1, hy2⟩ := info_parts rowi_info
            dsimp only
            go_wp2_with (at_builtin; refine wpList_append_own_at _ rfl _ _ 37 rfl w.heap.size 22 i2 _ 1 24 Tryz.underlying37 hj1 hy0 hy1 hy2 rfl (by decide) u7 svs.length svs rfl HDW.out.own ⟨g2, 0, none⟩ tvs.length cap2 tvs rfl (by simp) HNW.out HD2.out.one (by have := HL1.out; have := HD2.out.len; unfold maxLen; omega) (by have := HL1.out; have := HD2.out.len; omega) HDW.out.e.size ?_; intro v' W3 hown hgr _ _; have HAP := Lib.hid (HDW.out.append (M := M) HD2.out.len (fun j hj => own_base (HD2.out.rw j hj) HBB.out) hown hgr); clear hown hgr)
            go_roundw
            case rel => exact ⟨k + 1, hkC, by go_num, Lib.hid ⟨svs ++ tvs, by rw [HN.out]; exact HAP.out⟩⟩
            case measure => simp [RowKit.intOf]; omega
        · have HN : Hid (dealK C n s (k + 1) = dealK C n s k) := Lib.hid (by rw [dealK_step, hb]; simp)
          rw [hb] at HCO
          clear hb
          go_wp2_with fail
          refine HCO.out.mono ?_
          rintro _ _ ⟨rfl, rfl⟩
          dsimp only
          go_wp2_with fail
          go_roundw
          case rel => exact ⟨k + 1, hkC, by go_num, Lib.hid ⟨svs, by rw [HN.out]; exact HDK.out⟩⟩
          case measure => simp [RowKit.intOf]; omega
      · obtain rfl : k = C := by omega
        go_wp2_with fail
        go_ret
        exact ⟨svs, _, rfl, HDK.out⟩
end Wt
