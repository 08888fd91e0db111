/- Walk: puzzles.Seen. -/
import Derived.Test.YtoacdccachhjdaaGreatDoorMACa
import Derived.Test.YtoacdccachhjdaaGreatDoorMAAz
import Derived.Test.YtoacdccachhjdaaGreatDoorMAAj
import Derived.Test.YtoacdccachhjdaaGreatDoorMAAy
import Derived.RangeFuncNested
import Derived.RangeFuncBound
import Derived.RangeFuncCalls
import Derived.RangeFuncLeaves
import Derived.RangeFuncBox
namespace Wt
open Go Go.RowKit Go.Maps Go.Proofs Fm

/-- A model that the call has made, and an error. -/
def RetRz (A : Mo) (c : Int) (e : Ending) (w w' : World) : Prop := ∃ va ra vc rc, e = .returned (.tuple #[.agg #[.int .i64 A.worlds, .slice va A.val.length vc, .slice ra A.rel.length rc], .int .i64 c]) ∧ RM w' va ra A ∧ Ext w w'
theorem cf_seen1 (args : Array Value) (W : World) : (callFunc 52 args).run Tryz.prog W = .ok (.enter 52 args) W := by
  exact enters_of Tryz.func52 (by kernel_rfl) rfl args W
theorem cf_seen2 (args : Array Value) (W : World) : (callFunc 54 args).run Tryz.prog W = .ok (.enter 54 args) W := by
  exact enters_of Tryz.func54 (by kernel_rfl) rfl args W
/-- A set of facts out of range. -/
def senB (q : Nat) (s : Int) : Bool := decide (s < 0) || decide ((q : Int) ≤ s)
set_option maxHeartbeats 1000000 in
theorem seen1_any (s : Int) (b n q : Nat) (hq : q = 2 ^ n) (hn : n ≤ 4) (w : World) (hc : w.cell? ⟨b, 0, none⟩ = some (.int .i64 (n : Int))) :
    Calls Tryz.prog 52 #[.int .i64 s, .pointer (some ⟨b, 0, none⟩)] w fun e w' => e = .returned (.bool (senB q s)) ∧ Ext w w' := by
  have hp : p2 n = (q : Int) := by rw [hq]; rfl
  have h63 : n < 63 := by omega
  have hbl := World.block_lt_of_cell? _ _ hc
  have HS : Hid (senB q s = (decide (s < 0) || decide ((q : Int) ≤ s))) := Lib.hid rfl
  dsimp only at hbl
  clear hq hn
  cases d0 : decide (s < 0) <;> cases d1 : decide ((q : Int) ≤ s)
  all_goals
    go_enter Tryz.func52, Tryz.ntmps52
    go_wp2_with fail
    go_ret
    exact ⟨by rw [HS.out, d0, d1]; rfl, Ext.refl _⟩
set_option maxHeartbeats 1000000 in
/-- world & sees[agent]. -/
theorem seen2_any (L : List Nat) (la : Option Addr) (lc b a v : Nat) (w : World) (hl : RI w la (natI L)) (hc : w.cell? ⟨b, 0, none⟩ = some (.slice la L.length lc)) (ha : a < L.length) (hL : nth L a < 16) (hv : v < 16) :
    Calls Tryz.prog 54 #[.int .i64 (a : Int), .int .i64 (v : Int), .pointer (some ⟨b, 0, none⟩)] w fun e w' => e = .returned (.int .i64 ((v &&& nth L a : Nat) : Int)) ∧ Ext w w' := by
  obtain ⟨b1, o1, rfl, hb1, hc1⟩ := hl.get (k := a) (by simpa [natI] using ha)
  rw [nth_natI ha] at hc1
  have hbl := World.block_lt_of_cell? _ _ hc
  have hln := hl.len
  have hln2 : L.length ≤ 140737488355328 := by simpa [natI] using hln
  have han := and_nat v (nth L a) (by omega) (by omega)
  have hi1 : (0 : Int) ≤ (a : Int) := by omega
  have hi2 : (a : Int) < (L.length : Int) := by omega
  dsimp only at hbl
  clear hl
  generalize nth L a = s at *
  go_enter Tryz.func54, Tryz.ntmps54
  go_wp2_with fail
  go_ret
  exact ⟨by first | rfl | (rw [← han]; rfl), Ext.refl _⟩
/-- The worlds, all numbers below q. -/
def SwA (W0 : World) (q k : Nat) (W : World) : Prop := Ext W0 W ∧ OG W W0.heap.size 3 iv W0.heap.size q q ((List.range q).map fun v => if v < k then (v : Int) else 0)
theorem swL_set (q : Nat) {k : Nat} (_h : k < q) : ((List.range q).map fun v : Nat => if v < k then (v : Int) else 0).set k (k : Int) = (List.range q).map fun v : Nat => if v < k + 1 then (v : Int) else 0 := by
  refine List.ext_getElem (by simp) fun v h1 h2 => ?_
  rw [List.getElem_set]
  simp only [List.getElem_map, List.getElem_range]
  by_cases e : k = v
  · subst e; simp
  · rw [if_neg e]
    by_cases h3 : v < k
    · rw [if_pos h3, if_pos (by omega)]
    · rw [if_neg h3, if_neg (by omega)]
theorem SwA.put {W0 W : World} {q k : Nat} (h : SwA W0 q k W) (hk : k < q) : SwA W0 q (k + 1) (W.setCell ⟨W0.heap.size, k, none⟩ (.int .i64 (k : Int))) :=
  ⟨h.1.setCell (Nat.le_refl _) _, by have h2 := h.2.set k ((k : Nat) : Int); rw [swL_set q hk] at h2; exact h2⟩
theorem SwA.ri {W0 W : World} {q : Nat} (h : SwA W0 q q W) (hq : q ≤ 140737488355328) : RI W (some ⟨W0.heap.size, 0, none⟩) (natI (List.range q)) := by
  have e : ((List.range q).map fun v : Nat => if v < q then (v : Int) else 0) = natI (List.range q) := by
    unfold natI
    refine List.map_congr_left fun v hv => ?_
    rw [if_pos (List.mem_range.1 hv)]
  have h2 := h.2
  rw [e] at h2
  have hl := h2.len
  refine ⟨by omega, fun k hk => ⟨W0.heap.size, 0, rfl, ?_⟩⟩
  rw [Nat.zero_add]
  exact h2.cell (by omega)
/-- What puzzles.Seen returns. -/
def senE (n : Int) (sees : List Int) : Int := if n < 1 ∨ 4 < n then 2 else if (sees.length : Int) ≠ n then 3 else if sees.any (senB (2 ^ n.toNat)) then 1 else 0
def senM (n : Nat) (sees : List Nat) : Mo := bldM n (List.range (2 ^ n)) n fun a v => ((v &&& nth sees a : Nat) : Int)
end Wt

/- Walk: puzzles.Seen. -/
namespace Wt
open Go Go.RowKit Go.Maps Go.Proofs Fm

theorem agree_set3Z {B b : Nat} (w : World) (h : b < B) (x y z : Value) : Agree B w (((w.setCell ⟨b, 0, none⟩ x).setCell ⟨b, 1, none⟩ y).setCell ⟨b, 2, none⟩ z) := fun k hk _ => by
  rw [heap_setCell_other _ ⟨b, 2, none⟩ k _ (by simp; omega), heap_setCell_other _ ⟨b, 1, none⟩ k _ (by simp; omega), heap_setCell_other _ ⟨b, 0, none⟩ k _ (by simp; omega)]
theorem ext_set3Z {a w : World} (h : Ext a w) {b : Nat} (hb : a.heap.size ≤ b) (x y z : Value) : Ext a (((w.setCell ⟨b, 0, none⟩ x).setCell ⟨b, 1, none⟩ y).setCell ⟨b, 2, none⟩ z) :=
  ((h.setCell hb x).setCell hb y).setCell hb z
theorem results_cell_tmpZ {fn : Func} {p u : Tmp} {ty : TypeId} (h : fn.results = #[.cell p ty, .tmp u]) (tmps : Array Value) (P : Program) (w : World) :
    (results fn tmps).run P w = ((asAddr (tmps.getD p undef)).run P w).andThen fun a w₁ => ((loadVar ty a).run P w₁).andThen fun x w₂ => .ok (.tuple #[x, tmps.getD u undef]) w₂ := by
  simp only [results, h]
  simp [Sem.run_bind, Result.andThen]
set_option maxRecDepth 20000 in
set_option maxHeartbeats 8000000 in
theorem seen_ok (n : Nat) (hn : 1 ≤ n ∧ n ≤ 4) (L : List Nat) (hLn : L.length = n) (hL : ∀ a, a < n → nth L a < 2 ^ n) (la : Option Addr) (lc : Nat) (w : World) (hl : RI w la (natI L)) :
    Calls Tryz.prog 12 #[.int .i64 (n : Int), .slice la L.length lc] w fun e w' => RetRz (senM n L) 0 e w w' := by
  subst hLn
  obtain ⟨q, hq⟩ : ∃ q : Nat, q = 2 ^ L.length := ⟨_, rfl⟩
  have hp : p2 L.length = (q : Int) := by rw [hq]; rfl
  have hq16 : q ≤ 16 := by
    have : 2 ^ L.length ≤ 2 ^ 4 := Nat.pow_le_pow_right (by omega) hn.2
    omega
  have h63 : L.length < 63 := by omega
  have hE3 : Ext w (((w.alloc (.cells #[.int .i64 (L.length : Int)] 3)).alloc (.cells #[.slice la L.length lc] 22)).alloc (.cells #[.int .i64 0, .slice none 0 0, .slice none 0 0] 28)) := (((Ext.refl w).alloc _).alloc _).alloc _
  have HBN := Lib.hid ((Bx1.new w (.int .i64 (L.length : Int)) 3).ext (((Ext.refl _).alloc (.cells #[.slice la L.length lc] 22)).alloc (.cells #[.int .i64 0, .slice none 0 0, .slice none 0 0] 28)))
  have HBS := Lib.hid (((Bx1.new (w.alloc (.cells #[.int .i64 (L.length : Int)] 3)) (.slice la L.length lc) 22).ext ((Ext.refl _).alloc (.cells #[.int .i64 0, .slice none 0 0, .slice none 0 0] 28))).at (b' := w.heap.size + 1) (by simp))
  have HOR := Lib.hid (OutAt.new3 w (.cells #[.int .i64 (L.length : Int)] 3) (.cells #[.slice la L.length lc] 22) (.int .i64 0) (.slice none 0 0) (.slice none 0 0) 28)
  have HE := Lib.hid hE3
  have HL := Lib.hid (hl.ext hE3)
  have HSZ : Hid ((((w.alloc (.cells #[.int .i64 (L.length : Int)] 3)).alloc (.cells #[.slice la L.length lc] 22)).alloc (.cells #[.int .i64 0, .slice none 0 0, .slice none 0 0] 28)).heap.size = w.heap.size + 3) := Lib.hid (by simp)
  have hln := hl.len
  have hnl : (natI L).length = L.length := by simp [natI]
  have d0 : decide ((L.length : Int) < 1) = false := decide_eq_false (by omega)
  have d1 : decide ((4 : Int) < (L.length : Int)) = false := decide_eq_false (by omega)
  have d2 : ((L.length : Int) != (L.length : Int)) = false := by simp
  have HLB : Hid (∀ a, a < L.length → nth L a < q) := Lib.hid (by rw [hq]; exact hL)
  have hcf := fun W (e : Ext (((w.alloc (.cells #[.int .i64 (L.length : Int)] 3)).alloc (.cells #[.slice la L.length lc] 22)).alloc (.cells #[.int .i64 0, .slice none 0 0, .slice none 0 0] 28)) W) => containsFunc_i 52 [.pointer (some ⟨w.heap.size, 0, none⟩)] (senB q) la (natI L) lc W (HL.out.ext e) cf_seen1 (fun W2 k h1 _ => seen1_any (nth (natI L) k) w.heap.size L.length q hq hn.2 W2 ((HBN.out.ext e).ext h1).c)
  rw [hnl, show (natI L).any (senB q) = false from any_no fun k hk => by
    rw [hnl] at hk
    have h1 := HLB.out k (by omega)
    rw [nth_natI hk]
    unfold senB
    rw [decide_eq_false (by omega), decide_eq_false (by omega)]; rfl] at hcf
  have HCF := Lib.hid hcf
  obtain ⟨n0, n1⟩ : (((w.alloc (.cells #[.int .i64 (L.length : Int)] 3)).alloc (.cells #[.slice la L.length lc] 22)).alloc (.cells #[.int .i64 0, .slice none 0 0, .slice none 0 0] 28)).cell? ⟨w.heap.size, 0, none⟩ = some (.int .i64 (L.length : Int)) ∧ (((w.alloc (.cells #[.int .i64 (L.length : Int)] 3)).alloc (.cells #[.slice la L.length lc] 22)).alloc (.cells #[.int .i64 0, .slice none 0 0, .slice none 0 0] 28)).cell? ⟨w.heap.size + 1, 0, none⟩ = some (.slice la L.length lc) := ⟨HBN.out.c, HBS.out.c⟩
  have nl := World.block_lt_of_cell? _ _ n1
  have hnn := hn.1
  have hn4 := hn.2
  dsimp only at nl
  have HQ := Lib.hid hq
  clear hl hL hn hE3 hcf hq
  go_enter Tryz.func12, Tryz.ntmps12
  go_wp2_with fail
  generalize ((w.alloc (.cells #[.int .i64 (L.length : Int)] 3)).alloc (.cells #[.slice la L.length lc] 22)).alloc (.cells #[.int .i64 0, .slice none 0 0, .slice none 0 0] 28) = w0 at *
  refine (HCF.out _ (Ext.refl _)).mono ?_
  rintro _ w1 ⟨rfl, hX1⟩
  have HX1 := Lib.hid hX1
  have n2 := (HBN.out.ext hX1).c
  have nl2 := World.block_lt_of_cell? _ _ n2
  have mk1 := fun (w : World) => run_make_row' (P := Tryz.prog) 22 3 (.int .i64 0) 8 Tryz.underlying22 (by kernel_rfl) rfl .i64 .i64 q (by omega) (by omega) w
  clear n0 n1 nl hX1
  dsimp only at nl2 ⊢
  go_wp2_with fail
  clear mk1 n2 nl2
  have HA0 : Hid (SwA w1 q 0 (w1.alloc (.cells (madeCells #[.int .i64 0] q) 3))) := Lib.hid ⟨(Ext.refl w1).alloc _, by
    have h := OG.made (enc := iv) (T := 3) (base := w1.heap.size) w1 q (0 : Int) (Nat.le_refl _) (by omega)
    rw [show ((List.range q).map fun v : Nat => if v < 0 then (v : Int) else 0) = List.replicate q 0 from by
      refine List.ext_getElem (by simp) fun v h1 h2 => by simp]
    exact h⟩
  generalize w1.alloc (.cells (madeCells #[.int .i64 0] q) 3) = w2 at *
  go_loopw [29] (fun i wr => ∃ k : Nat, k ≤ q ∧ i = .int .i64 (k : Int) ∧ Hid (SwA w1 q k wr)) (fun i _ => q - (RowKit.intOf i).toNat)
  case atStart => exact ⟨0, Nat.zero_le _, rfl, HA0⟩
  case round =>
    clear HA0
    obtain ⟨k, hk, rfl, HS⟩ := hrel
    by_cases hkq : k < q
    · have kf := HS.out.2.frozen k
      have kl := HS.out.2.lt
      have kc := HS.out.2.cell hkq
      have HP := Lib.hid (HS.out.put hkq)
      generalize nth ((List.range q).map fun v : Nat => if v < k then (v : Int) else 0) k = y at *
      change wr.cell? ⟨w1.heap.size, k, none⟩ = some (.int .i64 y) at kc
      go_wp2_with fail
      go_roundw
      case rel => exact ⟨k + 1, hkq, by go_num, HP⟩
      case measure => simp [RowKit.intOf]; omega
    · obtain rfl : k = q := by omega
      have HWS := Lib.hid (HS.out.ri (by omega))
      have HXr := Lib.hid (HX1.out.trans HS.out.1)
      have n2 := (HBN.out.ext HXr.out).c
      have nl2 := World.block_lt_of_cell? _ _ n2
      have hlr : (List.range k).length = k := by simp
      have hb := build32_any 54 [.pointer (some ⟨w.heap.size + 1, 0, none⟩)] (fun a v => ((v &&& nth L a : Nat) : Int)) L.length L.length (List.range k) (some ⟨w1.heap.size, 0, none⟩) k wr HWS.out (by omega) (by omega) (by omega) cf_seen2 (fun W a v hW ha hv => by
        have h1 := HLB.out a ha
        exact seen2_any L la lc (w.heap.size + 1) a v W ((HL.out.ext HXr.out).ext hW) ((HBS.out.ext HXr.out).ext hW).c ha (by omega) (by omega))
      rw [hlr] at hb
      have HB : Hid (Calls Tryz.prog 53 #[.int .i64 (L.length : Int), .slice (some ⟨w1.heap.size, 0, none⟩) k k, .int .i64 (L.length : Int), .func (.func 54) #[] #[.pointer (some ⟨w.heap.size + 1, 0, none⟩)]] wr fun e w' => RetMA (senM L.length L) e wr w') := Lib.hid (by unfold senM; rw [← HQ.out]; exact hb)
      dsimp only at nl2
      clear hb hlr hk hkq HS hp
      obtain ⟨A, hA⟩ : ∃ A, A = senM L.length L := ⟨_, rfl⟩
      rw [← hA] at HB
      have HAe := Lib.hid hA
      clear hA
      go_wp2_with fail
      refine HB.out.mono ?_
      rintro _ w9 ⟨va, ra, vc, rc, rfl, hka, hE9⟩
      have HKA := Lib.hid hka
      have HE9 := Lib.hid (HXr.out.trans hE9)
      have HS9 : Hid (w.heap.size + 3 ≤ wr.heap.size) := Lib.hid (by rw [← HSZ.out]; exact HXr.out.size)
      have HO9 := Lib.hid ((HOR.out.ext HXr.out).ext hE9)
      obtain ⟨r0, r1, r2, rfz⟩ := HO9.out
      have f0 := rfz 0
      have f1 := rfz 1
      have f2 := rfz 2
      have rl := HO9.out.lt
      clear hka hE9 rfz n2 nl2
      dsimp only
      go_wp2_with fail
      have hs9 := HS9.out
      have hrm : RM (((w9.setCell ⟨w.heap.size + 1 + 1, 0, none⟩ (.int .i64 A.worlds)).setCell ⟨w.heap.size + 1 + 1, 1, none⟩ (.slice va A.val.length vc)).setCell ⟨w.heap.size + 1 + 1, 2, none⟩ (.slice ra A.rel.length rc)) va ra A := HKA.out _ (agree_set3Z _ (by omega) _ _ _)
      have hEx : Ext w (((w9.setCell ⟨w.heap.size + 1 + 1, 0, none⟩ (.int .i64 A.worlds)).setCell ⟨w.heap.size + 1 + 1, 1, none⟩ (.slice va A.val.length vc)).setCell ⟨w.heap.size + 1 + 1, 2, none⟩ (.slice ra A.rel.length rc)) := ext_set3Z (HE.out.trans HE9.out) (by omega) _ _ _
      have ho : OutAt w9 (w.heap.size + 1 + 1) (.int .i64 0) (.slice none 0 0) (.slice none 0 0) := HO9.out
      obtain ⟨d0, d1, d2, -⟩ := ((ho.set0 (.int .i64 A.worlds)).set1 (.slice va A.val.length vc)).set2 (.slice ra A.rel.length rc)
      generalize ((w9.setCell ⟨w.heap.size + 1 + 1, 0, none⟩ (.int .i64 A.worlds)).setCell ⟨w.heap.size + 1 + 1, 1, none⟩ (.slice va A.val.length vc)).setCell ⟨w.heap.size + 1 + 1, 2, none⟩ (.slice ra A.rel.length rc) = W2 at *
      refine bodyPost_ret (v := .tuple #[.agg #[.int .i64 A.worlds, .slice va A.val.length vc, .slice ra A.rel.length rc], .int .i64 0]) ?_ rfl ?_
      · rw [results_cell_tmpZ rfl]
        go_simp
      · rw [← HAe.out]
        exact ⟨va, ra, vc, rc, rfl, hrm, hEx⟩
end Wt

/- Pairs of a world and an event, in memory (after XOdA, XOdB). -/
namespace Wt
open Go Go.RowKit Go.Maps Go.Proofs Fm

/-- A slice of pairs. -/
structure RPe (w : World) (a : Option Addr) (l : List (Nat × Nat)) : Prop where
  len : l.length ≤ 140737488355328
  at_ : ∀ k, k < l.length → ∃ b off, a = some ⟨b, off, none⟩ ∧ w.cell? ⟨b, off + k * 2, none⟩ = some (.int .i64 ((nth l k).1 : Int)) ∧ w.cell? ⟨b, off + k * 2 + 1, none⟩ = some (.int .i64 ((nth l k).2 : Int))
theorem RPe.ext {w w' : World} (h : Ext w w') {a : Option Addr} {l : List (Nat × Nat)} (r : RPe w a l) : RPe w' a l := ⟨r.len, fun k hk => let ⟨b, off, e, c, d⟩ := r.at_ k hk; ⟨b, off, e, h.cell c, h.cell d⟩⟩
theorem RPe.get {w : World} {a : Option Addr} {l : List (Nat × Nat)} (r : RPe w a l) {k : Nat} (hk : k < l.length) : ∃ b off, a = some ⟨b, off, none⟩ ∧ b < w.heap.size ∧ w.cell? ⟨b, off + k * 2, none⟩ = some (.int .i64 ((nth l k).1 : Int)) ∧ w.cell? ⟨b, off + k * 2 + 1, none⟩ = some (.int .i64 ((nth l k).2 : Int)) :=
  let ⟨b, off, e, c, d⟩ := r.at_ k hk; ⟨b, off, e, World.block_lt_of_cell? w _ c, c, d⟩
theorem RPe.nil (w : World) (a : Option Addr) : RPe w a [] := ⟨by simp, fun _ hk => absurd hk (by simp)⟩
def peCells (p : Nat × Nat) : List Value := [.int .i64 (p.1 : Int), .int .i64 (p.2 : Int)]
def rowE (l : List (Nat × Nat)) : List Value := l.flatMap peCells
theorem rowE_length (l : List (Nat × Nat)) : (rowE l).length = l.length * 2 := by
  unfold rowE; induction l with
  | nil => rfl
  | cons a l ih => rw [List.flatMap_cons, List.length_append, ih, List.length_cons]; simp [peCells]; omega
theorem rowE_get (l : List (Nat × Nat)) (k j : Nat) (hk : k < l.length) (hj : j < 2) : (rowE l)[k * 2 + j]? = (peCells (nth l k))[j]? := by
  induction l generalizing k with
  | nil => simp at hk
  | cons a l ih =>
    have hs : rowE (a :: l) = peCells a ++ rowE l := rfl
    rw [hs]
    cases k with
    | zero =>
      rw [Nat.zero_mul, Nat.zero_add, List.getElem?_append_left (by simpa [peCells] using hj)]; rfl
    | succ k =>
      rw [List.getElem?_append_right (by simp [peCells]; omega)]
      have : (k + 1) * 2 + j - (peCells a).length = k * 2 + j := by simp [peCells]; omega
      rw [this, ih k (by simpa using hk)]
      rfl
theorem rowE_append (l m : List (Nat × Nat)) : rowE (l ++ m) = rowE l ++ rowE m := by simp [rowE]
theorem RPe_of_own {w : World} {base e : Nat} {v : Value} {l : List (Nat × Nat)} (h : w.ownsRow base e 2 v l.length (rowE l)) (hl : l.length ≤ 140737488355328) : ∃ a c, v = .slice a l.length c ∧ RPe w a l := by
  rcases h.2 with ⟨rfl, h0⟩ | ⟨g, cap, cur, rfl, hb, hg, hnc, hcm, hcs, htake⟩
  · have : l = [] := List.eq_nil_of_length_eq_zero h0
    subst this
    exact ⟨none, 0, rfl, RPe.nil _ _⟩
  · have key : ∀ k j, k < l.length → j < 2 → w.cell? ⟨g, 0 + (k * 2 + j), none⟩ = (peCells (nth l k))[j]? := fun k j hk hj => by
      rw [cell_of_row w g _ cur e (0, 0) hg, Nat.zero_add, ← rowE_get l k j hk hj, ← htake, List.getElem?_take, if_pos (by omega)]
      simp
    refine ⟨some ⟨g, 0, none⟩, cap, rfl, hl, fun k hk => ⟨g, 0, rfl, ?_, ?_⟩⟩
    · have := key k 0 hk (by omega)
      simpa [peCells] using this
    · have := key k 1 hk (by omega)
      simpa [peCells, Nat.add_assoc] using this
/-- A pair is appended to a row of pairs. -/
theorem paire_news (w : World) (a b : Nat) (T : Nat) : ∀ j u, (peCells (a, b))[j]? = some u → (w.alloc (.cells #[.int .i64 (a : Int), .int .i64 (b : Int)] T)).cell? ((⟨w.heap.size, 0, none⟩ : Addr).add j) = some u := by
  intro j u hj
  rw [Addr.add_lit, Nat.zero_add]
  match j, hj with
  | 0, hj => simp [peCells] at hj; subst hj; simp
  | 1, hj => simp [peCells] at hj; subst hj; simp
  | j + 2, hj => simp [peCells] at hj
theorem paire_one (p : Nat × Nat) : ∀ u ∈ peCells p, u.oneCell' = true := by
  intro u hu
  simp only [peCells, List.mem_cons, List.not_mem_nil, or_false] at hu
  rcases hu with rfl | rfl <;> rfl
end Wt

/- Walks: puzzles.pairs, its iterator; slices.AppendSeq and Collect of pairs. -/
namespace Wt
open Go Go.RowKit Go.Maps Go.Proofs Fm
attribute [local go_sem] Oper.semAt_some

/-- The pairs below a bound of which a test says yes, of the first k in their order. -/
def prL (m : Nat) (P : Nat → Nat → Bool) (k : Nat) : List (Nat × Nat) := ((List.range k).map fun i => (i / (m + 1), i % (m + 1))).filter fun p => P p.1 p.2
def prAll (m : Nat) (P : Nat → Nat → Bool) : List (Nat × Nat) := prL m P ((m + 1) * (m + 1))
theorem prL_step (m : Nat) (P : Nat → Nat → Bool) (k : Nat) : prL m P (k + 1) = prL m P k ++ if P (k / (m + 1)) (k % (m + 1)) = true then [(k / (m + 1), k % (m + 1))] else [] := by
  unfold prL
  rw [List.range_succ, List.map_append, List.filter_append]
  congr 1
  simp [List.filter]
  cases P (k / (m + 1)) (k % (m + 1)) <;> simp
theorem prL_len (m : Nat) (P : Nat → Nat → Bool) (k : Nat) : (prL m P k).length ≤ k := by
  unfold prL
  exact Nat.le_trans (List.length_filter_le _ _) (by simp)
theorem prL_at (m : Nat) (P : Nat → Nat → Bool) {v j : Nat} (hj : j < m + 1) : prL m P (v * (m + 1) + j + 1) = prL m P (v * (m + 1) + j) ++ if P v j = true then [(v, j)] else [] := by
  have h1 : (v * (m + 1) + j) / (m + 1) = v := by
    rw [Nat.mul_comm, Nat.mul_add_div (by omega), Nat.div_eq_of_lt hj, Nat.add_zero]
  have h2 : (v * (m + 1) + j) % (m + 1) = j := by
    rw [Nat.mul_comm, Nat.mul_add_mod, Nat.mod_eq_of_lt hj]
  rw [prL_step, h1, h2]
def prE (p : Nat × Nat) : Array Value := #[.agg #[.int .i64 (p.1 : Int), .int .i64 (p.2 : Int)]]
theorem pairs_any (m : Nat) (G : Nat) (caps : Array Value) (w : World) : Calls Tryz.prog 59 #[.int .i64 (m : Int), .func (.func G) #[] caps] w fun e w' => e = .returned (.func (.func 102) #[] #[.pointer (some ⟨w.heap.size, 0, none⟩), .pointer (some ⟨w.heap.size + 1, 0, none⟩)]) ∧ w' = (w.alloc (.cells #[.int .i64 (m : Int)] 3)).alloc (.cells #[.func (.func G) #[] caps] 75) := by
  go_enter Tryz.func59, Tryz.ntmps59
  go_wp2
  go_ret
  exact ⟨rfl, rfl⟩
set_option maxRecDepth 100000 in
set_option maxHeartbeats 4000000 in
/-- The iterator: all the pairs, in their order. -/
theorem pairs1_in (n : Nat) (l Bm Bi n₀ m G : Nat) (caps : List Value) (P : Nat → Nat → Bool) (hm : m ≤ 100) (J Jx : List (Nat × Nat) → World → Prop) (W : World) (hBm : W.cell? ⟨Bm, 0, none⟩ = some (.int .i64 (m : Int))) (hBi : W.cell? ⟨Bi, 0, none⟩ = some (.func (.func G) #[] caps.toArray)) (hm0 : Bm < n₀) (hi0 : Bi < n₀)
    (hcf : ∀ args W, (callFunc G args).run Tryz.prog W = .ok (.enter G args) W)
    (hG : ∀ W' x y, Below n₀ W W' → x ≤ m → y ≤ m → Calls Tryz.prog G (.int .i64 (x : Int) :: .int .i64 (y : Int) :: caps).toArray W' fun e w' => e = .returned (.bool (P x y)) ∧ W' = w')
    (hY : ∀ pre x W, J pre W → pre.length < (m + 1) * (m + 1) → YieldAt Fence.wide (n - 1) Tryz.prog l (prE x) W fun e W' =>
      (e = .returned (.bool true) ∧ J (pre ++ [x]) W' ∧ Below n₀ W W') ∨ (e = .returned (.bool false) ∧ Jx (pre ++ [x]) W'))
    (h0 : J [] W) :
    CallsIn Fence.wide n Tryz.prog 102 #[.func (.yield l) #[] #[], .pointer (some ⟨Bm, 0, none⟩), .pointer (some ⟨Bi, 0, none⟩)] W fun e W' => (∃ v, e = .returned v) ∧
      ((∃ ys, ys = prAll m P ∧ J ys W') ∨ (∃ pre, True ∧ Jx pre W')) := by
  have HG := Lib.hid hG
  have HY := Lib.hid hY
  clear hG hY
  have HW : Hid (∀ W', Below n₀ W W' → W'.cell? ⟨Bm, 0, none⟩ = some (.int .i64 (m : Int)) ∧ W'.cell? ⟨Bi, 0, none⟩ = some (.func (.func G) #[] caps.toArray)) := Lib.hid fun W' h => ⟨(h.cell (p := ⟨Bm, 0, none⟩) hm0).trans hBm, (h.cell (p := ⟨Bi, 0, none⟩) hi0).trans hBi⟩
  refine callsIn_of_wp Tryz.func102 rfl trivial ?_ rfl
  simp only [Tryz.ntmps102, List.size_toArray, List.length_cons, List.length_nil, Nat.reduceAdd, Nat.reduceSub, Array.replicate_succ, Array.replicate_zero, List.push_toArray, List.append_toArray, List.nil_append, List.cons_append]
  gi_wp2
  clear hBm hBi
  gi_loopw [8] (fun i wr => ∃ v : Nat, v ≤ m + 1 ∧ i = .int .i64 (v : Int) ∧ Hid (J (prL m P (v * (m + 1))) wr ∧ Below n₀ W wr)) (fun i _ => m + 2 - (RowKit.intOf i).toNat)
  case atStart => exact ⟨0, Nat.zero_le _, rfl, Lib.hid ⟨by rw [Nat.zero_mul]; exact h0, Below.refl _ _⟩⟩
  case round =>
    obtain ⟨v, hv, rfl, HJ⟩ := hrel
    by_cases hvm : v < m + 1
    · have dv : decide ((v : Int) < (m : Int) + 1) = true := decide_eq_true (by omega)
      obtain ⟨c1, c2⟩ := HW.out wr HJ.out.2
      gi_wp2
      clear c1 c2
      gi_loopw [13] (fun i wz => ∃ j : Nat, j ≤ m + 1 ∧ i = .int .i64 (j : Int) ∧ Hid (J (prL m P (v * (m + 1) + j)) wz ∧ Below n₀ W wz)) (fun i _ => m + 2 - (RowKit.intOf i).toNat)
      case atStart => exact ⟨0, Nat.zero_le _, rfl, HJ⟩
      case round =>
        rename World => wz
        obtain ⟨j, hj, rfl, HZ⟩ := hrel
        by_cases hjm : j < m + 1
        · have dj : decide ((j : Int) < (m : Int) + 1) = true := decide_eq_true (by omega)
          obtain ⟨c1, c2⟩ := HW.out wz HZ.out.2
          have HC := Lib.hid (callsIn_wide (n := n - 1).2 (HG.out wz v j HZ.out.2 (by omega) (by omega)))
          cases hP : P v j
          · have HN : Hid (prL m P (v * (m + 1) + (j + 1)) = prL m P (v * (m + 1) + j)) := Lib.hid (by rw [← Nat.add_assoc, prL_at m P hjm, hP]; simp)
            rw [hP] at HC
            clear hP
            gi_wp2
            refine ⟨trivial, (fun h => by cases h), HC.out.mono ?_⟩
            rintro _ _ ⟨rfl, rfl⟩
            dsimp only
            gi_wp2
            refine ⟨fun _ h => (by cases h), ?_⟩
            gi_wp2
            go_roundw
            case rel => exact ⟨j + 1, hjm, by go_num, Lib.hid (by rw [HN.out]; exact HZ.out)⟩
            case measure => simp [RowKit.intOf]; omega
          · have HN : Hid (prL m P (v * (m + 1) + (j + 1)) = prL m P (v * (m + 1) + j) ++ [(v, j)]) := Lib.hid (by rw [← Nat.add_assoc, prL_at m P hjm, hP]; simp)
            rw [hP] at HC
            have hpl : (prL m P (v * (m + 1) + j)).length < (m + 1) * (m + 1) := by
              have h1 := prL_len m P (v * (m + 1) + j)
              have h2 : v * (m + 1) ≤ m * (m + 1) := Nat.mul_le_mul_right _ (by omega)
              have h3 : (m + 1) * (m + 1) = m * (m + 1) + (m + 1) := by rw [Nat.add_mul, Nat.one_mul]
              omega
            obtain ⟨fn, tmps, assign, body, hy, hR⟩ := HY.out (prL m P (v * (m + 1) + j)) (v, j) wz HZ.out.1 hpl
            unfold prE at hy
            dsimp only at hy
            clear hP
            gi_wp2
            refine ⟨trivial, (fun h => by cases h), HC.out.mono ?_⟩
            rintro _ _ ⟨rfl, rfl⟩
            dsimp only
            gi_wp2
            refine ⟨(fun h => by cases h), hR.mono ?_⟩
            rintro e W3 (⟨rfl, hJ3, hk3⟩ | ⟨rfl, hJx3⟩)
            · dsimp only
              gi_wp2
              go_roundw
              case rel => exact ⟨j + 1, hjm, by go_num, Lib.hid ⟨by rw [HN.out]; exact hJ3, HZ.out.2.trans hk3⟩⟩
              case measure => simp [RowKit.intOf]; omega
            · dsimp only
              gi_wp2
              refine bodyPost_ret (results_none rfl _ _ _) rfl ?_
              exact ⟨⟨_, rfl⟩, .inr ⟨_, trivial, hJx3⟩⟩
        · obtain rfl : j = m + 1 := by omega
          gi_wp2
          go_roundw
          case rel => exact ⟨v + 1, hvm, by go_num, Lib.hid (by rw [Nat.succ_mul]; exact HZ.out)⟩
          case measure => simp [RowKit.intOf]; omega
    · obtain rfl : v = m + 1 := by omega
      gi_wp2
      go_end0
      exact ⟨⟨_, rfl⟩, .inl ⟨_, rfl, HJ.out.1⟩⟩
theorem arr2_info : (Tryz.prog.info? 23).map (fun i => (i.zero, i.size, i.bytes)) = some (some (.agg #[.int .i64 0, .int .i64 0]), 2, 16) := by kernel_rfl
/-- A variable of two cells in a block of its own. -/
def Bx2 (W : World) (b : Nat) (p : Nat × Nat) : Prop := W.heap[b]? = some (.cells #[.int .i64 (p.1 : Int), .int .i64 (p.2 : Int)] 23 (0, 0))
theorem Bx2.own {b B : Nat} (p : Nat × Nat) : OwnFrom B (fun (_ : Unit) W => Bx2 W b p) := fun _ X Y row hs hg hr => by
  refine (hg.block b (Array.getElem?_eq_some_iff.1 hs).1 fun e => ?_).trans hs
  obtain ⟨o, ho, hc⟩ := (hr b e.symm).2
  rw [show X.heap[b]? = _ from hs] at ho; cases ho; cases hc
/-- A list of pairs. -/
def RetRe (L : List (Nat × Nat)) (e : Ending) (w w' : World) : Prop := ∃ a c, e = .returned (.slice a L.length c) ∧ (∀ w'', Agree w.heap.size w' w'' → RPe w'' a L) ∧ Ext w w'
theorem RPe_own_all {w : World} {base e : Nat} {v : Value} {l : List (Nat × Nat)} (h : w.ownsRow base e 2 v l.length (rowE l)) (hl : l.length ≤ 140737488355328) : ∃ a c, v = .slice a l.length c ∧ ∀ w'', Agree base w w'' → RPe w'' a l := by
  obtain ⟨a, c, rfl, -⟩ := RPe_of_own h hl
  refine ⟨a, c, rfl, fun w'' ha => ?_⟩
  obtain ⟨a', c', e', hr⟩ := RPe_of_own (own_agree h ha) hl
  injection e' with e1
  rw [e1]
  exact hr
set_option maxRecDepth 100000 in
set_option maxHeartbeats 4000000 in
theorem appseq_any (Bm Bi m G : Nat) (caps : List Value) (P : Nat → Nat → Bool) (hm : m ≤ 100) (w : World) (hBm : w.cell? ⟨Bm, 0, none⟩ = some (.int .i64 (m : Int))) (hBi : w.cell? ⟨Bi, 0, none⟩ = some (.func (.func G) #[] caps.toArray))
    (hcf : ∀ args W, (callFunc G args).run Tryz.prog W = .ok (.enter G args) W)
    (hG : ∀ W' x y, Ext w W' → x ≤ m → y ≤ m → Calls Tryz.prog G (.int .i64 (x : Int) :: .int .i64 (y : Int) :: caps).toArray W' fun e w' => e = .returned (.bool (P x y)) ∧ W' = w') :
    Calls Tryz.prog 101 #[.slice none 0 0, .func (.func 102) #[] #[.pointer (some ⟨Bm, 0, none⟩), .pointer (some ⟨Bi, 0, none⟩)]] w fun e w' => RetRe (prAll m P) e w w' := by
  obtain ⟨i0, hi, hz0, hz1, hz2⟩ := info_parts arr2_info
  have hlm := World.block_lt_of_cell? _ _ hBm
  have hli := World.block_lt_of_cell? _ _ hBi
  dsimp only at hlm hli
  refine (callsIn_wide (n := 9)).1 ?_
  refine callsIn_of_wp_marks Tryz.func101 rfl trivial ?_ rfl
  simp only [Tryz.ntmps101, List.size_toArray, List.length_cons, List.length_nil, Nat.reduceAdd, Nat.reduceSub, Array.replicate_succ, Array.replicate_zero, List.push_toArray, List.append_toArray, List.nil_append, List.cons_append]
  gi_wp2
  have bO := Boxed.new w 32 (.slice none 0 0)
  have hB0 : Below w.heap.size w (w.alloc (.cells #[.slice none 0 0] 32)) := (Below.refl _ w).alloc (Nat.le_refl _) _
  have hsz : (w.alloc (.cells #[.slice none 0 0] 32)).heap.size = w.heap.size + 1 := by simp
  obtain ⟨W0, hW0⟩ : ∃ W0, w.alloc (.cells #[.slice none 0 0] 32) = W0 := ⟨_, rfl⟩
  rw [hW0] at bO hB0 hsz ⊢
  clear hW0
  have hsq : SeqStopsK Fence.wide (9 - 1) Tryz.prog 102 #[.pointer (some ⟨Bm, 0, none⟩), .pointer (some ⟨Bi, 0, none⟩)] prE (Below w.heap.size) (fun ys => ys = prAll m P) (fun _ => True) ((m + 1) * (m + 1)) W0 := fun l J Jx W hW _ _ hY h0 =>
    pairs1_in (9 - 1) l Bm Bi w.heap.size m G caps P hm J Jx W (((hB0.trans (hW.mono (by omega))).cell (p := ⟨Bm, 0, none⟩) hlm).trans hBm) (((hB0.trans (hW.mono (by omega))).cell (p := ⟨Bi, 0, none⟩) hli).trans hBi) hlm hli hcf
      (fun W' x y h1 h2 h3 => hG W' x y ((hB0.trans (hW.mono (by omega))).trans h1) h2 h3) hY h0
  have hmm : (m + 1) * (m + 1) ≤ 101 * 101 := Nat.mul_le_mul (by omega) (by omega)
  refine wpIn_rangeFunc_ownH rfl (by decide) (gf := 102) (lb := #[.pointer (some ⟨Bm, 0, none⟩), .pointer (some ⟨Bi, 0, none⟩)]) rfl trivial (enters_of Tryz.func102 (by kernel_rfl) rfl)
    hsq belowK_t (belowK_b (by omega)) (Below.refl _ _) (fun _ => rfl)
    (fun pre W => (∃ v, Boxed W w.heap.size 32 v ∧ W.ownsRow w.heap.size 23 2 v pre.length (rowE pre) ∧ True) ∧ Below w.heap.size w W)
    (fun _ _ _ => False)
    (OwnFrom.and (Own.from (holdsRow_own w.heap.size w.heap.size 32 23 2 (fun pre => pre.length) (fun pre => rowE pre) (fun _ _ => True)) _) (ownFrom_below (Nat.le_refl _) (by omega)))
    (fun _ _ _ _ _ hs _ _ => hs)
    ⟨⟨_, bO, World.ownsRow_nil _ _ _ _, trivial⟩, hB0⟩
    (fun x a' W => ∃ Bx, w.heap.size < Bx ∧ Bx2 W Bx x ∧ a' = { tmps := #[.slice none 0 0, .func (.func 102) #[] #[.pointer (some ⟨Bm, 0, none⟩), .pointer (some ⟨Bi, 0, none⟩)], .pointer (some ⟨w.heap.size, 0, none⟩), undef, .slice none 0 0, .pointer (some ⟨Bx, 0, none⟩), .func (.func 102) #[] #[.pointer (some ⟨Bm, 0, none⟩), .pointer (some ⟨Bi, 0, none⟩)], .agg #[.int .i64 (x.1 : Int), .int .i64 (x.2 : Int)], undef, undef, undef, undef, undef], defers := [] })
    (fun x a' _ X Y row hs hg hr => by obtain ⟨Bx, h1, h2, h3⟩ := hs; exact ⟨Bx, h1, Bx2.own x () X Y row h2 hg hr, h3⟩)
    ?assign ?body ?done ?stop
  case assign =>
    rintro l pre ⟨xa, xb⟩ W K ⟨⟨v, hv, hrow, -⟩, hB1⟩ hK
    unfold prE
    gi_wp2
    exact hK _ _ ((KeepsOthers.alloc _ _).from _) ((Below.refl _ W).alloc hB1.size _) ⟨⟨v, hv.alloc _, hrow.alloc _, trivial⟩, hB1.alloc hB1.size _⟩ ⟨W.heap.size, hv.lt, World.alloc_heap_new W _, rfl⟩
  case body =>
    rintro l pre ⟨xa, xb⟩ a' W hl ⟨r, hr⟩ ⟨⟨v, hv, hrow, -⟩, hB1⟩ ⟨Bx, hBx, bX, rfl⟩ hlt
    have cv := hv.cell
    have fv := hv.frozen
    have x0 : W.cell? ⟨Bx, 0, none⟩ = some (.int .i64 (xa : Int)) := by simp [World.cell?, show W.heap[Bx]? = _ from bX]
    have x1 : W.cell? ⟨Bx, 1, none⟩ = some (.int .i64 (xb : Int)) := by simp [World.cell?, show W.heap[Bx]? = _ from bX]
    have hsW := hB1.size
    have hpl : pre.length < 101 * 101 := Nat.lt_of_lt_of_le hlt hmm
    have hle : w.heap.size ≤ w.heap.size := Nat.le_refl _
    gi_wp2_with (gi_at_builtin; refine wpListIn_append_own _ rfl _ _ 32 rfl w.heap.size 23 i0 _ 2 16 Tryz.underlying32 hi hz0 hz1 hz2 rfl (by decide) v pre.length (rowE pre) rfl (hrow.alloc _) ⟨W.heap.size, 0, none⟩ 1 1 (peCells (xa, xb)) rfl rfl (paire_news _ _ _ _) (paire_one _) (by unfold maxLen; omega) (by omega) (by simp; omega) ?_; intro v' w1 hown' hgrow _; obtain ⟨g', cap', rfl⟩ := ownsRow_succ hown'; obtain ⟨hv1, hv2, hr2, hk2, hb2⟩ := hv.appended (by decide) hrow hB1.size hle hown' hgrow; have hc1 := hv1.cell; have hf1 := hv1.frozen)
    exact ⟨hk2.from _, hb2, ⟨_, hv2, by rw [List.length_append, rowE_append]; simpa [rowE] using hr2, trivial⟩, hB1.trans hb2⟩
  case done =>
    rintro D ys W hD rfl ⟨⟨v, hv, hrow, -⟩, hB1⟩ hK
    have cv := hv.cell
    gi_wp2
    refine ⟨by simp, .inl ⟨_, _, rfl, run_takeDeferred hK, ?_⟩⟩
    obtain ⟨a, c, rfl, hrp⟩ := RPe_own_all (ownsRow_putObj hrow _ hK rfl) (Nat.le_trans (prL_len _ _ _) (by omega))
    exact ⟨_, results_tmp rfl _ _ _, a, c, rfl, hrp, hB1.trans (belowK_b (w := w) (Nat.le_refl _) W D _ _ (by omega) hK rfl rfl)⟩
  case stop =>
    rintro D c pre W _ _ h _
    exact h.elim
end Wt

/- Walks: slices.Collect of pairs, puzzles.two. -/
namespace Wt
open Go Go.RowKit Go.Maps Go.Proofs Fm

theorem collect_any (Bm Bi m G : Nat) (caps : List Value) (P : Nat → Nat → Bool) (hm : m ≤ 100) (w : World) (hBm : w.cell? ⟨Bm, 0, none⟩ = some (.int .i64 (m : Int))) (hBi : w.cell? ⟨Bi, 0, none⟩ = some (.func (.func G) #[] caps.toArray))
    (hcf : ∀ args W, (callFunc G args).run Tryz.prog W = .ok (.enter G args) W)
    (hG : ∀ W' x y, Ext w W' → x ≤ m → y ≤ m → Calls Tryz.prog G (.int .i64 (x : Int) :: .int .i64 (y : Int) :: caps).toArray W' fun e w' => e = .returned (.bool (P x y)) ∧ W' = w') :
    Calls Tryz.prog 58 #[.func (.func 102) #[] #[.pointer (some ⟨Bm, 0, none⟩), .pointer (some ⟨Bi, 0, none⟩)]] w fun e w' => RetRe (prAll m P) e w w' := by
  have HA := Lib.hid (appseq_any Bm Bi m G caps P hm w hBm hBi hcf hG)
  go_enter Tryz.func58, Tryz.ntmps58
  go_wp2_with fail
  refine HA.out.mono ?_
  rintro _ w1 ⟨a, c, rfl, hr, hE⟩
  dsimp only
  go_wp2_with fail
  go_ret
  exact ⟨a, c, rfl, hr, hE⟩
/-- The model of worlds that are two numbers. -/
def twoW (b : Nat) (p : Nat × Nat) : Nat := p.1 ||| p.2 <<< b
def twoM (b : Nat) (L : List (Nat × Nat)) (key : Nat → Nat × Nat → Int) : Mo := bldM (2 * b) (L.map (twoW b)) 2 fun a v => key a (nth L v)
theorem cf_two1 (args : Array Value) (W : World) : (callFunc 103 args).run Tryz.prog W = .ok (.enter 103 args) W := by
  simp [callFunc, Tryz.func103, Tryz.f103]
set_option maxRecDepth 20000 in
set_option maxHeartbeats 4000000 in
theorem two1_any (G : Nat) (caps : List Value) (key : Nat → Nat × Nat → Int) (L : List (Nat × Nat)) (la : Option Addr) (lc bk bl : Nat) (a v : Nat) (w : World) (hl : RPe w la L) (hbk : w.cell? ⟨bk, 0, none⟩ = some (.func (.func G) #[] caps.toArray)) (hbl : w.cell? ⟨bl, 0, none⟩ = some (.slice la L.length lc)) (hv : v < L.length)
    (hcf : ∀ args W, (callFunc G args).run Tryz.prog W = .ok (.enter G args) W)
    (hG : ∀ W, Ext w W → Calls Tryz.prog G (.int .i64 (a : Int) :: .agg #[.int .i64 ((nth L v).1 : Int), .int .i64 ((nth L v).2 : Int)] :: caps).toArray W fun e w' => e = .returned (.int .i64 (key a (nth L v))) ∧ Ext W w') :
    Calls Tryz.prog 103 #[.int .i64 (a : Int), .int .i64 (v : Int), .pointer (some ⟨bk, 0, none⟩), .pointer (some ⟨bl, 0, none⟩)] w fun e w' => e = .returned (.int .i64 (key a (nth L v))) ∧ Ext w w' := by
  obtain ⟨b, off, rfl, hb, hc, hd⟩ := hl.get hv
  have hll := hl.len
  have HG := Lib.hid (hG w.drew (Ext.refl w).drew)
  have kl := World.block_lt_of_cell? _ _ hbk
  have bl' := World.block_lt_of_cell? _ _ hbl
  dsimp only at kl bl'
  clear hG
  generalize key a (nth L v) = K at *
  go_enter Tryz.func103, Tryz.ntmps103
  go_wp2_with fail
  refine wp_region_any (by kernel_rfl) ?_
  try (change wpAny _ _ _ _ _ _ _ (World.drew _))
  refine wpAny_take (i := 1) (v := ?_) rfl (by kernel_rfl) (by kernel_rfl) (by kernel_rfl) (fun _ _ _ h => h) (Or.inl ⟨by rfl, ?_⟩) ?_
  rotate_left
  focus (intro w; go_simp; try with_reducible rfl)
  refine wpAny_take (i := 3) (v := ?_) rfl (by kernel_rfl) (by kernel_rfl) (by kernel_rfl) (fun _ _ _ h => h) (Or.inl ⟨by rfl, ?_⟩) ?_
  rotate_left
  focus (intro w; go_simp; try with_reducible rfl)
  refine wpAny_headL (n := 6) [0, 2, 4, 5] 2 (by kernel_rfl) (.cons (.here) (.cons (.next (.next (.here))) (.cons (.next (.next (.next (.next (.here))))) (.cons (.next (.next (.next (.next (.next (.here)))))) (.nil))))) ?_
  repeat still_step
  refine wpStill_nil ?_
  refine wpAny_ready (rs := [6]) (by kernel_rfl) (by simp) ?_
  refine AllReady.cons rfl (fun K hK => ?_) ?_
  rotate_left
  focus (exact AllReady.nil)
  go_simp
  go_wp2_with (refine HG.out.mono ?_; rintro _ w2 ⟨rfl, hE2⟩; have HE2 := Lib.hid hE2; clear hE2)
  try (refine hK _ _ ?_)
  refine wpAny_of_seqL [7] _ _ _ _ (.cons (.next (.next (.next (.next (.next (.next (.next (.here)))))))) (.nil)) (by kernel_rfl) ?_
  all_goals go_wp2_with fail
  all_goals go_ret
  all_goals exact ⟨rfl, (Ext.refl w).drew.trans HE2.out⟩
theorem or_shlT : ∀ b : _root_.Fin 5, ∀ x y : _root_.Fin 16, bits .or .i64 ((x.val : Nat) : Int) (IntKind.i64.wrap (((y.val : Nat) : Int) * 2 ^ b.val)) = ((x.val ||| y.val <<< b.val : Nat) : Int) := by decide +kernel
theorem or_shlZ {b x y : Nat} (hb : b ≤ 4) (hx : x < 2 ^ b) (hy : y < 2 ^ b) : bits .or .i64 (x : Int) (IntKind.i64.wrap ((y : Int) * 2 ^ b)) = ((twoW b (x, y) : Nat) : Int) := by
  have h16 : 2 ^ b ≤ 2 ^ 4 := Nat.pow_le_pow_right (by omega) hb
  exact or_shlT ⟨b, by omega⟩ ⟨x, by omega⟩ ⟨y, by omega⟩
theorem take_nthZ {α : Type} [Inhabited α] {L : List α} {k : Nat} (h : k < L.length) : L.take (k + 1) = L.take k ++ [nth L k] := by
  rw [nth_eq _ _ h, List.take_add_one, List.getElem?_eq_getElem h]
  rfl
set_option maxRecDepth 20000 in
set_option maxHeartbeats 8000000 in
theorem two_any (b G : Nat) (caps : List Value) (key : Nat → Nat × Nat → Int) (L : List (Nat × Nat)) (la : Option Addr) (lc : Nat) (w : World) (hl : RPe w la L) (hb : b ≤ 4) (h64 : L.length ≤ 64) (hL : ∀ k, k < L.length → (nth L k).1 < 2 ^ b ∧ (nth L k).2 < 2 ^ b)
    (hcf : ∀ args W, (callFunc G args).run Tryz.prog W = .ok (.enter G args) W)
    (hG : ∀ W a v, Ext w W → a < 2 → v < L.length → Calls Tryz.prog G (.int .i64 (a : Int) :: .agg #[.int .i64 ((nth L v).1 : Int), .int .i64 ((nth L v).2 : Int)] :: caps).toArray W fun e w' => e = .returned (.int .i64 (key a (nth L v))) ∧ Ext W w') :
    Calls Tryz.prog 61 #[.slice la L.length lc, .int .i64 (b : Int), .func (.func G) #[] caps.toArray] w fun e w' => RetMA (twoM b L key) e w w' := by
  have hE3 : Ext w (((w.alloc (.cells #[.slice la L.length lc] 32)).alloc (.cells #[.func (.func G) #[] caps.toArray] 92)).alloc (.cells #[.int .i64 0, .slice none 0 0, .slice none 0 0] 28)) := (((Ext.refl w).alloc _).alloc _).alloc _
  have HBL := Lib.hid ((Bx1.new w (.slice la L.length lc) 32).ext (((Ext.refl _).alloc (.cells #[.func (.func G) #[] caps.toArray] 92)).alloc (.cells #[.int .i64 0, .slice none 0 0, .slice none 0 0] 28)))
  have HBK := Lib.hid (((Bx1.new (w.alloc (.cells #[.slice la L.length lc] 32)) (.func (.func G) #[] caps.toArray) 92).ext ((Ext.refl _).alloc (.cells #[.int .i64 0, .slice none 0 0, .slice none 0 0] 28))).at (b' := w.heap.size + 1) (by simp))
  have HOR := Lib.hid (OutAt.new3 w (.cells #[.slice la L.length lc] 32) (.cells #[.func (.func G) #[] caps.toArray] 92) (.int .i64 0) (.slice none 0 0) (.slice none 0 0) 28)
  have HE := Lib.hid hE3
  have HL := Lib.hid (hl.ext hE3)
  have HG := Lib.hid hG
  have HSZ : Hid ((((w.alloc (.cells #[.slice la L.length lc] 32)).alloc (.cells #[.func (.func G) #[] caps.toArray] 92)).alloc (.cells #[.int .i64 0, .slice none 0 0, .slice none 0 0] 28)).heap.size = w.heap.size + 3) := Lib.hid (by simp)
  have hln := hl.len
  have HLB := Lib.hid hL
  have HBB := Lib.hid hb
  have h63 : b < 63 := by omega
  have n0 := HBL.out.c
  have nl := World.block_lt_of_cell? _ _ n0
  dsimp only at nl
  clear hl hL hE3 hG
  go_enter Tryz.func61, Tryz.ntmps61
  go_wp2_with fail
  generalize ((w.alloc (.cells #[.slice la L.length lc] 32)).alloc (.cells #[.func (.func G) #[] caps.toArray] 92)).alloc (.cells #[.int .i64 0, .slice none 0 0, .slice none 0 0] 28) = w0 at *
  clear n0 nl
  go_loopw [7, 12] (fun v i wr => ∃ k : Nat, k ≤ L.length ∧ i = .int .i64 (k : Int) ∧ Hid (GL w0 3 iv (natI ((L.take k).map (twoW b))) v wr)) (fun _ i _ => L.length - (RowKit.intOf i).toNat)
  case atStart => exact ⟨0, Nat.zero_le _, rfl, Lib.hid ⟨Ext.refl _, by rw [List.take_zero]; exact World.ownsRow_nil _ _ _ _⟩⟩
  case round =>
    obtain ⟨k, hk, rfl, HS⟩ := hrel
    by_cases hkl : k < L.length
    · obtain ⟨bb, off, rfl, hbb, hc, hd⟩ := (HL.out.ext HS.out.e).get hkl
      have hxy := HLB.out k hkl
      have HTK : Hid (natI ((L.take (k + 1)).map (twoW b)) = natI ((L.take k).map (twoW b)) ++ [((twoW b (nth L k) : Nat) : Int)]) := Lib.hid (by rw [take_nthZ hkl]; simp [natI])
      generalize nth L k = xy at *
      obtain ⟨x, y⟩ := xy
      dsimp only at hc hd hxy
      have HXY := Lib.hid hxy
      clear hxy
      go_wp2_with fail
      have HSS : Hid (∀ w', Ext (wr.alloc (.cells #[.int .i64 (x : Int), .int .i64 (y : Int)] 23)) w' → w'.cell? ⟨wr.heap.size, 0, none⟩ = some (.int .i64 (x : Int)) ∧ w'.cell? ⟨wr.heap.size, 1, none⟩ = some (.int .i64 (y : Int))) := Lib.hid fun w' h' => ⟨h'.cell (by simp), h'.cell (by simp)⟩
      have HS2 := Lib.hid (HS.out.ext' ((Ext.refl wr).alloc (.cells #[.int .i64 (x : Int), .int .i64 (y : Int)] 23)))
      generalize hwz : wr.alloc (.cells #[.int .i64 (x : Int), .int .i64 (y : Int)] 23) = wz at *
      clear hwz
      refine wp_region_E 9 (fun w' => w'.cell? ⟨wr.heap.size, 0, none⟩ = some (.int .i64 (x : Int)) ∧ w'.cell? ⟨wr.heap.size, 1, none⟩ = some (.int .i64 (y : Int))) (by kernel_rfl) ?_
      refine wpAnyE_take (i := 0) (v := ?_) (.here) (by kernel_rfl) (fun _ _ _ h => h) (HSS.out _ (Ext.refl _).drew) (by rfl) ?_ ?_
      rotate_left
      focus (intro w hSw; (try dsimp only at hSw); go_simp; try with_reducible rfl)
      try simp only [Act.put, List.setIfInBounds_toArray, List.set_cons_zero, List.set_cons_succ]
      refine wpAnyE_take (i := 1) (v := ?_) (.next (.here)) (by kernel_rfl) (fun _ _ _ h => h) (HSS.out _ (Ext.refl _).drew) (by rfl) ?_ ?_
      rotate_left
      focus (intro w hSw; (try dsimp only at hSw); go_simp; try with_reducible rfl)
      try simp only [Act.put, List.setIfInBounds_toArray, List.set_cons_zero, List.set_cons_succ]
      refine wpAnyE_take (i := 2) (v := ?_) (.next (.next (.here))) (by kernel_rfl) (fun _ _ _ h => h) (HSS.out _ (Ext.refl _).drew) (by rfl) ?_ ?_
      rotate_left
      focus (intro w hSw; (try dsimp only at hSw); go_simp; try with_reducible rfl)
      try simp only [Act.put, List.setIfInBounds_toArray, List.set_cons_zero, List.set_cons_succ]
      refine wpAnyE_take (i := 3) (v := ?_) (.next (.next (.next (.here)))) (by kernel_rfl) (fun _ _ _ h => h) (HSS.out _ (Ext.refl _).drew) (by rfl) ?_ ?_
      rotate_left
      focus (intro w hSw; (try dsimp only at hSw); go_simp; try with_reducible rfl)
      try simp only [Act.put, List.setIfInBounds_toArray, List.set_cons_zero, List.set_cons_succ]
      refine wpAnyE_take (i := 4) (v := ?_) (.next (.next (.next (.next (.here))))) (by kernel_rfl) (fun _ _ _ h => h) (HSS.out _ (Ext.refl _).drew) (by rfl) ?_ ?_
      rotate_left
      focus (intro w hSw; (try dsimp only at hSw); go_simp; try with_reducible rfl)
      try simp only [Act.put, List.setIfInBounds_toArray, List.set_cons_zero, List.set_cons_succ]
      refine wpAnyE_take (i := 5) (v := ?_) (.next (.next (.next (.next (.next (.here)))))) (by kernel_rfl) (fun _ _ _ h => h) (HSS.out _ (Ext.refl _).drew) (by rfl) ?_ ?_
      rotate_left
      focus (intro w hSw; (try dsimp only at hSw); go_simp; try with_reducible rfl)
      try simp only [Act.put, List.setIfInBounds_toArray, List.set_cons_zero, List.set_cons_succ]
      refine wpAnyE_take (i := 6) (v := ?_) (.next (.next (.next (.next (.next (.next (.here))))))) (by kernel_rfl) (fun _ _ _ h => h) (HSS.out _ (Ext.refl _).drew) (by rfl) ?_ ?_
      rotate_left
      focus (intro w hSw; (try dsimp only at hSw); go_simp; try with_reducible rfl)
      try simp only [Act.put, List.setIfInBounds_toArray, List.set_cons_zero, List.set_cons_succ]
      refine wpAnyE_take (i := 7) (v := ?_) (.next (.next (.next (.next (.next (.next (.next (.here)))))))) (by kernel_rfl) (fun _ _ _ h => h) (HSS.out _ (Ext.refl _).drew) (by rfl) ?_ ?_
      rotate_left
      focus (intro w hSw; (try dsimp only at hSw); go_simp; try with_reducible rfl)
      try simp only [Act.put, List.setIfInBounds_toArray, List.set_cons_zero, List.set_cons_succ]
      rw [or_shlZ HBB.out HXY.out.1 HXY.out.2]
      obtain ⟨z, hz⟩ : ∃ z, z = twoW b (x, y) := ⟨_, rfl⟩
      rw [← hz] at HTK ⊢
      clear hz
      refine wpAnyE_one (k := 8) (.next (.next (.next (.next (.next (.next (.next (.next (.here))))))))) (by kernel_rfl) (fun K hK => ?_)
      go_simp
      refine hK.out _ _ (fun _ => HSS.out _ ((Ext.refl _).drew.alloc _)) ?_
      clear hK
      try simp only [Act.put, List.setIfInBounds_toArray, List.set_cons_zero, List.set_cons_succ]
      refine wpAnyE_seq [9, 10] (.cons (.next (.next (.next (.next (.next (.next (.next (.next (.next (.here)))))))))) (.cons (.next (.next (.next (.next (.next (.next (.next (.next (.next (.next (.here))))))))))) (.nil))) (by kernel_rfl) (by kernel_rfl) ?_
      have HTS : Hid (((L.take k).map (twoW b)).length = k) := Lib.hid (by simp; omega)
      have HO : Hid (∀ o, (wz.drew.alloc o).ownsRow w0.heap.size 3 1 u7 (natI ((L.take k).map (twoW b))).length ((natI ((L.take k).map (twoW b))).map iv)) := Lib.hid fun o => (HS2.out.ext' ((Ext.refl wz).drew.alloc o)).own
      have HPA : Hid (∀ o, GL w0 3 iv (natI ((L.take k).map (twoW b))) u7 (wz.drew.alloc o)) := Lib.hid fun o => HS2.out.ext' ((Ext.refl wz).drew.alloc o)
      have HCN : Hid (∀ j u, [Value.int .i64 (z : Int)][j]? = some u → (wz.drew.alloc (.cells #[.int .i64 (z : Int)] 3)).cell? ((⟨wz.heap.size, 0, none⟩ : Addr).add j) = some u) := Lib.hid (cell_one_new wz.drew _ _)
      have HONE : Hid (∀ u ∈ [Value.int .i64 (z : Int)], u.oneCell' = true) := Lib.hid (by simp [Value.oneCell'])
      have hsz1 : w0.heap.size ≤ wz.heap.size := HS2.out.e.size
      have hzl : (natI ((L.take k).map (twoW b))).length ≤ 64 := by rw [show (natI ((L.take k).map (twoW b))).length = ((L.take k).map (twoW b)).length by simp [natI], HTS.out]; omega
      obtain ⟨i0, hi1, hz0, hz1, hz2⟩ := info_parts int_info
      generalize natI ((L.take k).map (twoW b)) = ZL at *
      go_wp2_with (at_builtin; refine wpList_append_lies _ rfl _ _ 22 rfl w0.heap.size 3 i0 _ 1 8 Tryz.underlying22 hi1 hz0 hz1 hz2 rfl (by decide) u7 ZL.length (ZL.map iv) rfl (HO.out _) ⟨wz.heap.size, 0, none⟩ 1 1 [.int .i64 (z : Int)] rfl rfl HCN.out HONE.out (by decide) (by unfold maxLen; omega) (by omega) (Nat.le_trans hsz1 (by simp)) (wz.heap.size + 1) (by simp) ?_; intro gx cap W1 hown hgrow hat hlt2; have hpush := (HPA.out _).push (x := (z : Int)) hown hgrow; have HPU := Lib.hid hpush; clear hpush hown hgrow hat)
      go_roundw
      case rel => exact ⟨k + 1, hkl, by go_num, Lib.hid (by rw [HTK.out]; exact HPU.out)⟩
      case measure => simp [RowKit.intOf]; omega
    · obtain rfl : k = L.length := by omega
      have hS := HS.out
      rw [List.take_length] at hS
      obtain ⟨wa, wc, rfl, hri⟩ := RI_of_own hS.own (by simp [natI]; omega)
      have hnl : (natI (L.map (twoW b))).length = L.length := by simp [natI]
      have hml : (L.map (twoW b)).length = L.length := by simp
      rw [hnl]
      have HXr := Lib.hid hS.e
      have hbd := build32_any 103 [.pointer (some ⟨w.heap.size + 1, 0, none⟩), .pointer (some ⟨w.heap.size, 0, none⟩)] (fun a v => key a (nth L v)) (2 * b) 2 (L.map (twoW b)) wa wc wr hri (by omega) (by have := HBB.out; omega) (by omega) cf_two1 (fun W a v hW ha hv => by
        have hx := HXr.out.trans hW
        exact two1_any G caps key L la lc (w.heap.size + 1) w.heap.size a v W (HL.out.ext hx) (HBK.out.ext hx).c (HBL.out.ext hx).c (by omega) hcf fun W2 h2 => HG.out W2 a v ((HE.out.trans hx).trans h2) ha (by omega))
      rw [hml] at hbd
      have HB : Hid (Calls Tryz.prog 53 #[.int .i64 (2 * (b : Int)), .slice wa L.length wc, .int .i64 2, .func (.func 103) #[] #[.pointer (some ⟨w.heap.size + 1, 0, none⟩), .pointer (some ⟨w.heap.size, 0, none⟩)]] wr fun e w' => RetMA (twoM b L key) e wr w') := Lib.hid (by
        unfold twoM
        rw [show (2 * (b : Int)) = ((2 * b : Nat) : Int) by omega]
        exact hbd)
      clear hbd hnl hml hri hS
      obtain ⟨A, hA⟩ : ∃ A, A = twoM b L key := ⟨_, rfl⟩
      rw [← hA] at HB
      have HAe := Lib.hid hA
      clear hA
      have hb4 := HBB.out
      go_wp2_with fail
      refine HB.out.mono ?_
      rintro _ w9 ⟨va, ra, vc, rc, rfl, hka, hE9⟩
      have HKA := Lib.hid hka
      have HE9 := Lib.hid (HXr.out.trans hE9)
      have HS9 : Hid (w.heap.size + 3 ≤ wr.heap.size) := Lib.hid (by rw [← HSZ.out]; exact HXr.out.size)
      have HO9 := Lib.hid ((HOR.out.ext HXr.out).ext hE9)
      obtain ⟨r0, r1, r2, rfz⟩ := HO9.out
      have f0 := rfz 0
      have f1 := rfz 1
      have f2 := rfz 2
      have rl := HO9.out.lt
      clear hka hE9 rfz
      dsimp only
      go_wp2_with fail
      have hs9 := HS9.out
      have hkm : ∀ w'', Agree w.heap.size (((w9.setCell ⟨w.heap.size + 1 + 1, 0, none⟩ (.int .i64 A.worlds)).setCell ⟨w.heap.size + 1 + 1, 1, none⟩ (.slice va A.val.length vc)).setCell ⟨w.heap.size + 1 + 1, 2, none⟩ (.slice ra A.rel.length rc)) w'' → RM w'' va ra A := fun w'' ha => HKA.out _ fun k hk hl => by
        rw [ha k (by omega) (by simpa [World.setCell] using hl)]
        have hne : k ≠ w.heap.size + 1 + 1 := by omega
        rw [heap_setCell_other _ _ _ _ (by simpa using hne), heap_setCell_other _ _ _ _ (by simpa using hne), heap_setCell_other _ _ _ _ (by simpa using hne)]
      have hEx : Ext w (((w9.setCell ⟨w.heap.size + 1 + 1, 0, none⟩ (.int .i64 A.worlds)).setCell ⟨w.heap.size + 1 + 1, 1, none⟩ (.slice va A.val.length vc)).setCell ⟨w.heap.size + 1 + 1, 2, none⟩ (.slice ra A.rel.length rc)) := ext_set3Z (HE.out.trans HE9.out) (by omega) _ _ _
      have ho : OutAt w9 (w.heap.size + 1 + 1) (.int .i64 0) (.slice none 0 0) (.slice none 0 0) := HO9.out
      obtain ⟨d0, d1, d2, -⟩ := ((ho.set0 (.int .i64 A.worlds)).set1 (.slice va A.val.length vc)).set2 (.slice ra A.rel.length rc)
      generalize ((w9.setCell ⟨w.heap.size + 1 + 1, 0, none⟩ (.int .i64 A.worlds)).setCell ⟨w.heap.size + 1 + 1, 1, none⟩ (.slice va A.val.length vc)).setCell ⟨w.heap.size + 1 + 1, 2, none⟩ (.slice ra A.rel.length rc) = W2 at *
      refine bodyPost_ret (v := .agg #[.int .i64 A.worlds, .slice va A.val.length vc, .slice ra A.rel.length rc]) ?_ rfl ?_
      · rw [results_cell_one rfl]
        go_simp
      · rw [← HAe.out]
        exact ⟨va, ra, vc, rc, rfl, hkm, hEx⟩
end Wt
