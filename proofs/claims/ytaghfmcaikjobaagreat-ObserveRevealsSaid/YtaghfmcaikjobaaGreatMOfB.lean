/- Walks: wittinglaw22.fact, either; literal models; what the examples of the chapter come to. -/
import Derived.Test.YtaghfmcaikjobaaGreatMObQ
import Derived.Test.YtaghfmcaikjobaaGreatMCkC
import Derived.Test.YtaghfmcaikjobaaGreatMObP
import Derived.Laws.StructEq
import Derived.Deep.QuietTactic
import Derived.BigQuiet
import Derived.Laws.CopyOwn
import Derived.BigRegion
namespace Wt
open Go Go.RowKit Go.Maps Go.Proofs Fm

/-- The formula of a fact. -/
def f22 (i : Int) : List Nd := [⟨3, i, 0, 0, 0, 0⟩]
/-- The first fact or the second one. -/
def e22 : List Nd := [⟨3, 0, 0, 0, 0, 0⟩, ⟨3, 1, 0, 0, 0, 0⟩, ⟨6, 0, 0, 0, 0, 1⟩]
set_option maxHeartbeats 1000000 in
theorem fact22_any (i : Int) (w : World) : Calls Tryz.prog 11 #[.int .i64 i] w fun e w' => RetN (f22 i) e w w' := by
  go_enter Tryz.func11, Tryz.ntmps11
  go_wp2
  go_ret
  refine ⟨some ⟨w.heap.size, 0, none⟩, 1, rfl, ⟨by show (1 : Nat) ≤ _; decide, fun k hk => ?_⟩, (Ext.refl w).alloc _⟩
  obtain rfl : k = 0 := by have : k < 1 := hk; omega
  exact ⟨w.heap.size, 0, rfl, by simp [nth, f22], by simp [nth, f22], by simp [nth, f22], by simp [nth, f22], by simp [nth, f22], by simp [nth, f22]⟩
set_option maxHeartbeats 1000000 in
theorem either22_any (w : World) : Calls Tryz.prog 13 #[] w fun e w' => RetN e22 e w w' := by
  go_enter Tryz.func13, Tryz.ntmps13
  go_wp2
  go_ret
  refine ⟨some ⟨w.heap.size, 0, none⟩, 3, rfl, ⟨by decide, fun k hk => ?_⟩, (Ext.refl w).alloc _⟩
  rcases (show k = 0 ∨ k = 1 ∨ k = 2 by have : k < 3 := hk; omega) with rfl | rfl | rfl
  all_goals exact ⟨w.heap.size, 0, rfl, by simp [nth, e22], by simp [nth, e22], by simp [nth, e22], by simp [nth, e22], by simp [nth, e22], by simp [nth, e22]⟩
theorem RR.two (w : World) (fa ga : Option Addr) (fc gc : Nat) (f g : List (BitVec 64)) (T : Nat) (h : RU w fa f) (h2 : RU w ga g) : RR (w.alloc (.cells #[.slice fa f.length fc, .slice ga g.length gc] T)) (some ⟨w.heap.size, 0, none⟩) [f, g] :=
  ⟨by simp, fun k hk => by
    rcases (show k = 0 ∨ k = 1 by simp at hk; omega) with rfl | rfl
    · exact ⟨w.heap.size, 0, fa, fc, rfl, by simp [nth], h.ext ((Ext.refl w).alloc _)⟩
    · exact ⟨w.heap.size, 0, ga, gc, rfl, by simp [nth], h2.ext ((Ext.refl w).alloc _)⟩⟩
/-- The model of the example of the chapter. -/
def m22 : Mo := ⟨3, [5#64, 6#64], [[5#64, 2#64, 5#64], [1#64, 6#64, 6#64]]⟩
/-- One world, two agents. -/
def o22 : Mo := ⟨1, [], [[1#64], [1#64]]⟩
def s22 : List (List (List Nd)) := [[f22 0], [f22 1]]
theorem m22_lit (w : World) : RM ((((w.alloc (.cells #[.int .u64 5, .int .u64 6] 44)).alloc (.cells #[.int .u64 5, .int .u64 2, .int .u64 5] 44)).alloc (.cells #[.int .u64 1, .int .u64 6, .int .u64 6] 44)).alloc (.cells #[.slice (some ⟨w.heap.size + 1, 0, none⟩) 3 3, .slice (some ⟨w.heap.size + 1 + 1, 0, none⟩) 3 3] 22)) (some ⟨w.heap.size, 0, none⟩) (some ⟨w.heap.size + 1 + 1 + 1, 0, none⟩) m22 := by
  have u1 := RU.lit w [5#64, 6#64] #[.int .u64 5, .int .u64 6] 44 rfl (by decide)
  generalize hw1 : w.alloc (.cells #[.int .u64 5, .int .u64 6] 44) = w1 at *
  have s1 : w1.heap.size = w.heap.size + 1 := by rw [← hw1]; simp
  have u2 := RU.lit w1 [5#64, 2#64, 5#64] #[.int .u64 5, .int .u64 2, .int .u64 5] 44 rfl (by decide)
  have e2 := (Ext.refl w1).alloc (.cells #[.int .u64 5, .int .u64 2, .int .u64 5] 44)
  generalize hw2 : w1.alloc (.cells #[.int .u64 5, .int .u64 2, .int .u64 5] 44) = w2 at *
  have s2 : w2.heap.size = w1.heap.size + 1 := by rw [← hw2]; simp
  have u3 := RU.lit w2 [1#64, 6#64, 6#64] #[.int .u64 1, .int .u64 6, .int .u64 6] 44 rfl (by decide)
  have e3 := (Ext.refl w2).alloc (.cells #[.int .u64 1, .int .u64 6, .int .u64 6] 44)
  generalize hw3 : w2.alloc (.cells #[.int .u64 1, .int .u64 6, .int .u64 6] 44) = w3 at *
  have s3 : w3.heap.size = w2.heap.size + 1 := by rw [← hw3]; simp
  rw [← s1, ← s2, ← s3]
  exact ⟨u1.ext ((e2.trans e3).alloc _), RR.two w3 _ _ 3 3 _ _ _ (u2.ext e3) u3⟩
theorem o22_lit (w : World) : RM (((w.alloc (.cells #[.int .u64 1] 44)).alloc (.cells #[.int .u64 1] 44)).alloc (.cells #[.slice (some ⟨w.heap.size, 0, none⟩) 1 1, .slice (some ⟨w.heap.size + 1, 0, none⟩) 1 1] 22)) none (some ⟨w.heap.size + 1 + 1, 0, none⟩) o22 := by
  have u2 := RU.lit w [1#64] #[.int .u64 1] 44 rfl (by decide)
  generalize hw2 : w.alloc (.cells #[.int .u64 1] 44) = w2 at *
  have s2 : w2.heap.size = w.heap.size + 1 := by rw [← hw2]; simp
  have u3 := RU.lit w2 [1#64] #[.int .u64 1] 44 rfl (by decide)
  have e3 := (Ext.refl w2).alloc (.cells #[.int .u64 1] 44)
  generalize hw3 : w2.alloc (.cells #[.int .u64 1] 44) = w3 at *
  have s3 : w3.heap.size = w2.heap.size + 1 := by rw [← hw3]; simp
  rw [← s2, ← s3]
  exact ⟨RU.nil _ _, RR.two w3 _ _ 1 1 _ _ _ (u2.ext e3) u3⟩
theorem mo_eq {M : Mo} {W : Int} {V : List (BitVec 64)} {R : List (List (BitVec 64))} (h : M.worlds = W ∧ M.val = V ∧ M.rel = R) : M = ⟨W, V, R⟩ := by
  obtain ⟨a, b, c⟩ := M
  obtain ⟨rfl, rfl, rfl⟩ := h
  rfl
theorem ax1 : obErr 2 e22 s22 = 0 ∧ natI (obS 2 e22 s22) = [1, 2, 3] := by decide +kernel
theorem ax2 : obM 2 e22 s22 = m22 := mo_eq (by decide +kernel)
theorem ax3 : tabErr e22 2 = 0 ∧ (memL (tabOf e22 2)).length = 3 := by decide +kernel
theorem ax4 : revErr m22 1 (f22 1) = 0 := by decide +kernel
theorem ax5 : revM m22 1 (f22 1) = ⟨3, [5#64, 6#64], [[1#64, 2#64, 4#64], [1#64, 6#64, 6#64]]⟩ := mo_eq (by decide +kernel)
theorem ax6 : infErr m22 0 1 = 0 ∧ infOf m22 0 1 = false := by decide +kernel
theorem ax7 : poolErr s22 3 = 0 ∧ (poolOf s22 3).length = 2 := by decide +kernel
theorem ax8 : prErr m22 o22 = 0 ∧ (prL m22 o22).length = 3 := by decide +kernel
theorem ax9 : prM m22 o22 = m22 := mo_eq (by decide +kernel)
theorem few_s22 : FewS s22 := by
  constructor <;> decide
end Wt

/- Equal pairs and equal nodes compare equal. -/
namespace Wt
open Go Go.RowKit Go.Maps Go.Proofs Fm
theorem guard_pair : Tryz.prog.eqGuardType Tryz.prog.depth 68 = false := by kernel_rfl
theorem guard_node : Tryz.prog.eqGuardType Tryz.prog.depth 62 = false := by kernel_rfl
theorem und_pair : Tryz.prog.underlying 68 = some (.array 2 3) := by kernel_rfl
theorem eq_pair (d : Nat) (a b : Int) (w : World) : (Op.equalIn (d + 1 + 1) 68 (.agg #[.int .i64 a, .int .i64 b]) (.agg #[.int .i64 a, .int .i64 b])).run Tryz.prog w = .ok true w := by
  rw [Op.equalIn]
  simp only [Sem.run_bind, run_underlying und_pair, Result.andThen_ok]
  have hs : (Go.sizeOf 3).run Tryz.prog w = .ok 1 w := by kernel_rfl
  simp only [hs, Result.andThen_ok]
  have h0 : ∀ v : Int, (Op.equalIn (d + 1) 3 (.int .i64 v) (.int .i64 v)).run Tryz.prog w = .ok true w := fun v => by rw [run_equalIn_int w d 3 .i64 .i64 v v (by kernel_rfl)]; simp
  simp [Sem.run_bind, Std.Legacy.Range.forIn_eq_forIn_range', List.range', part, h0]
theorem neq_pair (a b : Int) (w : World) : (binOp .neq 68 (.agg #[.int .i64 a, .int .i64 b]) (.agg #[.int .i64 a, .int .i64 b])).run Tryz.prog w = .ok (.bool false) w := by
  rw [run_neq_struct, eq_pair 9998]; rfl
theorem fields_node : Tryz.prog.underlying 62 = some (.struct (Tryz.prog.fieldsOf 62)) := by kernel_rfl
theorem held_node : Tryz.prog.stoodInHeld 62 = false := by kernel_rfl
theorem list_node : (Tryz.prog.fieldsOf 62).toList.map (fun f => (f.name, f.type, f.offset)) = [("Op", 3, 0), ("I", 3, 1), ("E", 3, 2), ("G", 3, 3), ("X", 3, 4), ("Y", 3, 5)] := by kernel_rfl
theorem eqFields_same (d : Nat) (xs : Array Value) (w : World) : ∀ fs : List Field, (∀ f ∈ fs, f.type = 3 ∧ ∃ v : Int, xs[f.offset]? = some (.int .i64 v)) → (Op.eqFields (d + 1) xs xs fs).run Tryz.prog w = .ok true w
  | [], _ => rfl
  | f :: fs, h => by
    obtain ⟨ht, v, hv⟩ := h f (by simp)
    have ih := eqFields_same d xs w fs fun g hg => h g (by simp [hg])
    have hp : (part 3 xs f.offset).run Tryz.prog w = .ok (.int .i64 v) w := by
      have ha : (isAgg 3).run Tryz.prog w = .ok false w := by kernel_rfl
      simp [part, Sem.run_bind, ha, hv]
    have h0 : (Op.equalIn (d + 1) 3 (.int .i64 v) (.int .i64 v)).run Tryz.prog w = .ok true w := by rw [run_equalIn_int w d 3 .i64 .i64 v v (by kernel_rfl)]; simp
    unfold Op.eqFields
    split
    · rw [ht]
      simp [Sem.run_bind, hp, h0, ih]
    · exact ih
theorem neq_node (a b c d e f : Int) (w : World) : (binOp .neq 62 (.agg #[.int .i64 a, .int .i64 b, .int .i64 c, .int .i64 d, .int .i64 e, .int .i64 f]) (.agg #[.int .i64 a, .int .i64 b, .int .i64 c, .int .i64 d, .int .i64 e, .int .i64 f])).run Tryz.prog w = .ok (.bool false) w := by
  rw [run_neq_struct, run_equalIn_agg w 9999 _ _ _ fields_node held_node, eqFields_same 9998]
  · rfl
  · intro g hg
    have hm : (g.name, g.type, g.offset) ∈ (Tryz.prog.fieldsOf 62).toList.map (fun f => (f.name, f.type, f.offset)) := List.mem_map.2 ⟨g, hg, rfl⟩
    rw [list_node] at hm
    simp only [List.mem_cons, List.not_mem_nil, or_false, Prod.mk.injEq] at hm
    rcases hm with ⟨-, h1, h2⟩ | ⟨-, h1, h2⟩ | ⟨-, h1, h2⟩ | ⟨-, h1, h2⟩ | ⟨-, h1, h2⟩ | ⟨-, h1, h2⟩
    all_goals exact ⟨h1, _, by rw [h2]; rfl⟩
end Wt

/- Pairs of worlds in memory; walks: observe.Product's both, wittingref22.pairs, SamePairs. -/
namespace Wt
open Go Go.RowKit Go.Maps Go.Proofs Fm

/-- A slice of pairs. -/
structure RP (w : World) (a : Option Addr) (l : List (Nat × Nat)) : Prop where
  len : l.length ≤ 140737488355328
  at_ : ∀ k, k < l.length → ∃ b off, a = some ⟨b, off, none⟩ ∧ w.cell? ⟨b, off + k * 2, none⟩ = some (.int .i64 ((nth l k).1 : Int)) ∧ w.cell? ⟨b, off + k * 2 + 1, none⟩ = some (.int .i64 ((nth l k).2 : Int))
theorem RP.ext {w w' : World} (h : Ext w w') {a : Option Addr} {l : List (Nat × Nat)} (r : RP w a l) : RP w' a l := ⟨r.len, fun k hk => let ⟨b, off, e, c, d⟩ := r.at_ k hk; ⟨b, off, e, h.cell c, h.cell d⟩⟩
theorem RP.get {w : World} {a : Option Addr} {l : List (Nat × Nat)} (r : RP w a l) {k : Nat} (hk : k < l.length) : ∃ b off, a = some ⟨b, off, none⟩ ∧ b < w.heap.size ∧ w.cell? ⟨b, off + k * 2, none⟩ = some (.int .i64 ((nth l k).1 : Int)) ∧ w.cell? ⟨b, off + k * 2 + 1, none⟩ = some (.int .i64 ((nth l k).2 : Int)) :=
  let ⟨b, off, e, c, d⟩ := r.at_ k hk; ⟨b, off, e, World.block_lt_of_cell? w _ c, c, d⟩
theorem RP.nil (w : World) (a : Option Addr) : RP w a [] := ⟨by simp, fun _ hk => absurd hk (by simp)⟩
def prCells (p : Nat × Nat) : List Value := [.int .i64 (p.1 : Int), .int .i64 (p.2 : Int)]
def rowP (l : List (Nat × Nat)) : List Value := l.flatMap prCells
theorem rowP_length (l : List (Nat × Nat)) : (rowP l).length = l.length * 2 := by
  unfold rowP; induction l with
  | nil => rfl
  | cons a l ih => rw [List.flatMap_cons, List.length_append, ih, List.length_cons]; simp [prCells]; omega
theorem rowP_get (l : List (Nat × Nat)) (k j : Nat) (hk : k < l.length) (hj : j < 2) : (rowP l)[k * 2 + j]? = (prCells (nth l k))[j]? := by
  induction l generalizing k with
  | nil => simp at hk
  | cons a l ih =>
    have hs : rowP (a :: l) = prCells a ++ rowP l := rfl
    rw [hs]
    cases k with
    | zero =>
      rw [Nat.zero_mul, Nat.zero_add, List.getElem?_append_left (by simpa [prCells] using hj)]; rfl
    | succ k =>
      rw [List.getElem?_append_right (by simp [prCells]; omega)]
      have : (k + 1) * 2 + j - (prCells a).length = k * 2 + j := by simp [prCells]; omega
      rw [this, ih k (by simpa using hk)]
      rfl
theorem rowP_append (l m : List (Nat × Nat)) : rowP (l ++ m) = rowP l ++ rowP m := by simp [rowP]
theorem RP_of_own {w : World} {base e : Nat} {v : Value} {l : List (Nat × Nat)} (h : w.ownsRow base e 2 v l.length (rowP l)) (hl : l.length ≤ 140737488355328) : ∃ a c, v = .slice a l.length c ∧ RP w a l := by
  rcases h.2 with ⟨rfl, h0⟩ | ⟨g, cap, cur, rfl, hb, hg, hnc, hcm, hcs, htake⟩
  · have : l = [] := List.eq_nil_of_length_eq_zero h0
    subst this
    exact ⟨none, 0, rfl, RP.nil _ _⟩
  · have key : ∀ k j, k < l.length → j < 2 → w.cell? ⟨g, 0 + (k * 2 + j), none⟩ = (prCells (nth l k))[j]? := fun k j hk hj => by
      rw [cell_of_row w g _ cur e (0, 0) hg, Nat.zero_add, ← rowP_get l k j hk hj, ← htake, List.getElem?_take, if_pos (by omega)]
      simp
    refine ⟨some ⟨g, 0, none⟩, cap, rfl, hl, fun k hk => ⟨g, 0, rfl, ?_, ?_⟩⟩
    · have := key k 0 hk (by omega)
      simpa [prCells] using this
    · have := key k 1 hk (by omega)
      simpa [prCells, Nat.add_assoc] using this
theorem both_bit (s t : BitVec 64) (a b k : Nat) : (s >>> a &&& t >>> b &&& 1#64) <<< k = if (bt s a && bt t b) = true then 1#64 <<< k else 0#64 := by
  have e : (s >>> a &&& t >>> b &&& 1#64) = if (bt s a && bt t b) = true then 1#64 else 0#64 := by
    apply BitVec.eq_of_getLsbD_eq
    intro i hi
    unfold bt
    by_cases h0 : i = 0
    · subst h0
      cases hs : s.getLsbD a <;> cases ht : t.getLsbD b <;> simp [hs, ht]
    · cases hs : s.getLsbD a <;> cases ht : t.getLsbD b <;> simp [h0]
  rw [e]
  by_cases h : (bt s a && bt t b) = true
  · rw [if_pos h, if_pos h]
  · rw [if_neg h, if_neg h]; simp
theorem setTo_or (p : Nat → Bool) (k : Nat) (z : BitVec 64) (h : z = if p k = true then 1#64 <<< k else 0#64) : setTo p k ||| z = setTo p (k + 1) := by
  subst h
  show _ = if p k = true then setTo p k ||| 1#64 <<< k else setTo p k
  by_cases h : p k = true
  · rw [if_pos h, if_pos h]
  · rw [if_neg h, if_neg h]; simp
theorem cf_product1 (args : Array Value) (W : World) : (callFunc 31 args).run Tryz.prog W = .ok (.enter 31 args) W := by
  simp [callFunc, Tryz.func31, Tryz.f31]
set_option maxHeartbeats 2000000 in
theorem product1_any (s t : BitVec 64) (b : Nat) (pa : Option Addr) (pc : Nat) (l : List (Nat × Nat)) (w : World) (h1 : w.cell? ⟨b, 0, none⟩ = some (.slice pa l.length pc)) (hr : RP w pa l) :
    Calls Tryz.prog 31 #[.int .u64 (un s), .int .u64 (un t), .pointer (some ⟨b, 0, none⟩)] w fun e w' => e = .returned (.int .u64 (un (bothS l s t))) ∧ Ext w w' := by
  have hbl := World.block_lt_of_cell? _ _ h1
  have hll := hr.len
  have HR := Lib.hid hr
  clear hr
  go_enter Tryz.func31, Tryz.ntmps31
  go_wp2
  go_loopw [6, 11] (fun o i wr => ∃ k : Nat, k ≤ l.length ∧ i = .int .i64 (k : Int) ∧ o = .int .u64 (un (setTo (fun i => bt s (nth l i).1 && bt t (nth l i).2) k)) ∧ Ext w wr) (fun _ i _ => l.length - (intOf i).toNat)
  case atStart => exact ⟨0, Nat.zero_le _, rfl, rfl, Ext.refl _⟩
  case round =>
    obtain ⟨k, hk, rfl, rfl, hE⟩ := hrel
    by_cases hlt : k < l.length
    · obtain ⟨b2, off, rfl, hb, hc, hd⟩ := (HR.out.ext hE).get hlt
      have hst := setTo_or (fun i => bt s (nth l i).1 && bt t (nth l i).2) k _ (both_bit s t (nth l k).1 (nth l k).2 k)
      have HST := Lib.hid hst
      have HE := Lib.hid hE
      clear hst hE
      generalize (nth l k).1 = p0 at *
      generalize (nth l k).2 = p1 at *
      go_wp2_with fail
      go_quiet (fail)
      go_wp2
      go_roundw
      case rel => exact ⟨k + 1, hlt, by go_num, by rw [← HST.out], by first | exact (HE.out.alloc _).drewN _ | exact (HE.out.drewN _).alloc _⟩
      case measure => simp [intOf]; omega
    · obtain rfl : k = l.length := by omega
      go_wp2
      go_ret
      exact ⟨rfl, hE⟩
end Wt

/- Walk: observe.Product. -/
namespace Wt
open Go Go.RowKit Go.Maps Go.Proofs Fm

theorem own_ext {w w' : World} {B T sz n : Nat} {v : Value} {xs : List Value} (h : w.ownsRow B T sz v n xs) (e : Ext w w') : w'.ownsRow B T sz v n xs := own_agree h (Agree.ofExt e)
/-- A struct under way, the newest block ahead of its slices. -/
structure ZR (W0 : World) (len : Int) (V : List (BitVec 64)) (vv : Value) (L : List (List (BitVec 64))) (svs : List Value) (vr : Value) (w : World) : Prop where
  e : Ext W0 w
  out : OutAt w W0.heap.size (.int .i64 len) vv vr
  ov : OU w (W0.heap.size + 1) vv V
  rl : svs.length = L.length
  orr : w.ownsRow (W0.heap.size + 1) 22 1 vr svs.length svs
  rw : ∀ j, j < L.length → OU w (W0.heap.size + 1) (nth svs j) (nth L j)
section
variable {W0 w w' W1 : World} {len : Int} {V : List (BitVec 64)} {vv : Value} {L : List (List (BitVec 64))} {svs : List Value} {vr v' : Value}
theorem ZR.new (W0 : World) (len : Int) : ZR W0 len [] (.slice none 0 0) [] [] (.slice none 0 0) (W0.alloc (.cells #[.int .i64 len, .slice none 0 0, .slice none 0 0] 25)) :=
  ⟨(Ext.refl _).alloc _, OutAt.new W0 _ _ _ _, World.ownsRow_nil _ _ _ _, rfl, World.ownsRow_nil _ _ _ _, fun j hj => absurd hj (by simp)⟩
theorem ZR.ext' (h : ZR W0 len V vv L svs vr w) (e : Ext w w') : ZR W0 len V vv L svs vr w' :=
  ⟨h.e.trans e, h.out.ext e, OU.ext h.ov e, h.rl, own_ext h.orr e, fun j hj => OU.ext (h.rw j hj) e⟩
theorem ZR.outV (h : ZR W0 len V vv L svs vr w) (g : w.grownBy W1 vv.ownBlock) : OutAt W1 W0.heap.size (.int .i64 len) vv vr :=
  h.out.keep (g.block _ h.out.lt (fun e => by have := (World.ownsRow.lt h.ov _ e.symm).1; omega))
theorem ZR.outR (h : ZR W0 len V vv L svs vr w) (g : w.grownBy W1 vr.ownBlock) : OutAt W1 W0.heap.size (.int .i64 len) vv vr :=
  h.out.keep (g.block _ h.out.lt (fun e => by have := (h.orr.lt _ e.symm).1; omega))
theorem ZR.pushV (h : ZR W0 len V vv [] [] (.slice none 0 0) w) {x : BitVec 64} (ho : W1.ownsRow (W0.heap.size + 1) 44 1 v' (V.length + 1) (V.map uv ++ [uv x])) (g : w.grownBy W1 vv.ownBlock) : ZR W0 len (V ++ [x]) v' [] [] (.slice none 0 0) (W1.setCell ⟨W0.heap.size, 1, none⟩ v') := by
  have hr : ∀ k, vv.ownBlock = some k → W0.heap.size + 1 ≤ k := fun k hk => (World.ownsRow.lt h.ov k hk).1
  refine ⟨(Below.grown h.e g h.e.size (fun k hk => by have := hr k hk; omega)).setCell (Nat.le_refl _) _, (h.outV g).set1 v', ?_, rfl, World.ownsRow_nil _ _ _ _, fun j hj => absurd hj (by simp)⟩
  refine setOther ?_ (by omega)
  rw [List.map_append, List.length_append]; exact ho
theorem ZR.pushR (h : ZR W0 len V vv L svs vr w) {sv : Value} {r : List (BitVec 64)} (hs : OU w (W0.heap.size + 1) sv r) (ho : W1.ownsRow (W0.heap.size + 1) 22 1 v' (svs.length + 1) (svs ++ [sv])) (g : w.grownBy W1 vr.ownBlock) : ZR W0 len V vv (L ++ [r]) (svs ++ [sv]) v' (W1.setCell ⟨W0.heap.size, 2, none⟩ v') := by
  have hr : ∀ k, vr.ownBlock = some k → W0.heap.size + 1 ≤ k := fun k hk => (h.orr.lt k hk).1
  have hk1 : ∀ {m : Nat} {u : Value} {xs : List Value}, w.ownsRow (W0.heap.size + 1) 44 1 u m xs → W1.ownsRow (W0.heap.size + 1) 44 1 u m xs := fun {_ _ _} ho => ho.kept g (own_ne ho h.orr (by decide))
  refine ⟨(Below.grown h.e g h.e.size (fun k hk => by have := hr k hk; omega)).setCell (Nat.le_refl _) _, (h.outR g).set2 v', setOther (hk1 h.ov) (by omega), by simp [h.rl], ?_, fun j hj => ?_⟩
  · refine setOther ?_ (by omega)
    rw [List.length_append]; exact ho
  · by_cases hj2 : j < L.length
    · rw [nth_appL _ _ (by rw [h.rl]; exact hj2), nth_appL _ _ hj2]
      exact setOther (hk1 (h.rw j hj2)) (by omega)
    · have e : j = L.length := by simp at hj; omega
      subst e
      have e1 := nth_appR svs [sv] (k := 0) (by simp)
      have e2 := nth_appR L [r] (k := 0) (by simp)
      rw [Nat.add_zero, h.rl] at e1
      rw [Nat.add_zero] at e2
      rw [e1, e2]; exact setOther (hk1 hs) (by omega)
/-- What the struct holds is the model, also behind the stores into the result. -/
theorem ZR.rm3 (h : ZR W0 len V vv L svs vr w) (h1 : L.length ≤ 1000) (h2 : ∀ j, j < L.length → (nth L j).length ≤ 1000) (h3 : V.length ≤ 1000) :
    ∃ va vc ra rc, vv = .slice va V.length vc ∧ vr = .slice ra L.length rc ∧ ∀ w', Agree (W0.heap.size + 1) w w' → RM w' va ra ⟨len, V, L⟩ := by
  obtain ⟨va, vc, hv, -⟩ := RU_of_OU h.ov (by omega)
  have hl := h.rl
  obtain ⟨a, c, hr⟩ : ∃ a c, vr = .slice a L.length c := by
    rcases h.orr.2 with ⟨rfl, h0⟩ | ⟨g, cap, cur, rfl, _⟩
    · exact ⟨none, 0, by rw [← hl, h0]⟩
    · exact ⟨some ⟨g, 0, none⟩, cap, by rw [hl]⟩
  refine ⟨va, vc, a, c, hv, hr, fun w' ha => ?_⟩
  have h4 := own_agree h.orr ha
  rw [hr] at h4
  have h5 : OU w' (W0.heap.size + 1) vv V := own_agree h.ov ha
  obtain ⟨va2, vc2, hv2, hu2⟩ := RU_of_OU h5 (by omega)
  rw [hv] at hv2
  simp only [Value.slice.injEq] at hv2
  obtain ⟨rfl, -, -⟩ := hv2
  exact ⟨hu2, RR_of_rows h4 hl (fun j hj => own_agree (h.rw j hj) ha) (by show L.length ≤ _; omega) fun j hj => by have := h2 j hj; show (nth L j).length ≤ _; omega⟩
end
/-- The first k pairs. -/
def plK (m k : Nat) : List (Nat × Nat) := (List.range k).map fun i => (i / m, i % m)
theorem plK_len (m k : Nat) : (plK m k).length = k := by simp [plK]
theorem plK_step (m k : Nat) : plK m (k + 1) = plK m k ++ [(k / m, k % m)] := by unfold plK; rw [List.range_succ, List.map_append]; rfl
theorem plK_at {m v x : Nat} (h : x < m) : (v * m + x) / m = v ∧ (v * m + x) % m = x := by
  have hm : 0 < m := by omega
  constructor
  · rw [Nat.mul_comm, Nat.mul_add_div hm, Nat.div_eq_of_lt h, Nat.add_zero]
  · rw [Nat.mul_comm, Nat.mul_add_mod, Nat.mod_eq_of_lt h]
theorem plK_all (N m : Nat) : plK m (N * m) = pairL N m := rfl
/-- A pair is appended to a row of pairs. -/
theorem pair_news (w : World) (a b : Nat) (T : Nat) : ∀ j u, (prCells (a, b))[j]? = some u → (w.alloc (.cells #[.int .i64 (a : Int), .int .i64 (b : Int)] T)).cell? ((⟨w.heap.size, 0, none⟩ : Addr).add j) = some u := by
  intro j u hj
  rw [Addr.add_lit, Nat.zero_add]
  match j, hj with
  | 0, hj => simp [prCells] at hj; subst hj; simp
  | 1, hj => simp [prCells] at hj; subst hj; simp
  | j + 2, hj => simp [prCells] at hj
theorem pair_one (p : Nat × Nat) : ∀ u ∈ prCells p, u.oneCell' = true := by
  intro u hu
  simp only [prCells, List.mem_cons, List.not_mem_nil, or_false] at hu
  rcases hu with rfl | rfl <;> rfl
theorem pair_info : (Tryz.prog.info? 68).map (fun i => (i.zero, i.size, i.bytes)) = some (some (.agg #[.int .i64 0, .int .i64 0]), 2, 16) := by kernel_rfl
/-- The list of pairs under way, in a variable of the call's own. -/
structure PrS (W0 : World) (l : List (Nat × Nat)) (v : Value) (w : World) : Prop where
  e : Ext W0 w
  c : w.cell? ⟨W0.heap.size, 0, none⟩ = some v
  fz : w.frozen? ⟨W0.heap.size, 0, none⟩ = false
  own : w.ownsRow (W0.heap.size + 1) 68 2 v l.length (rowP l)
section
variable {W0 w w' W1 : World} {l : List (Nat × Nat)} {v v' : Value}
theorem PrS.new (W0 : World) (T : Nat) : PrS W0 [] (.slice none 0 0) (W0.alloc (.cells #[.slice none 0 0] T)) :=
  ⟨(Ext.refl _).alloc _, by simp, by first | (simp; done) | (simp [World.frozen?]; done), World.ownsRow_nil _ _ _ _⟩
theorem PrS.ext' (h : PrS W0 l v w) (e : Ext w w') : PrS W0 l v w' :=
  ⟨h.e.trans e, e.cell h.c, by rw [World.frozen?_of_block (e.block _ (World.block_lt_of_cell? _ _ h.c))]; exact h.fz, own_ext h.own e⟩
theorem PrS.keep (h : PrS W0 l v w) (g : w.grownBy W1 v.ownBlock) : W1.cell? ⟨W0.heap.size, 0, none⟩ = some v ∧ W1.frozen? ⟨W0.heap.size, 0, none⟩ = false ∧ W0.heap.size < W1.heap.size := by
  have hlt := World.block_lt_of_cell? _ _ h.c
  have hne : some W0.heap.size ≠ v.ownBlock := fun e => by have := (h.own.lt _ e.symm).1; omega
  exact ⟨g.cell h.c hne, by rw [World.frozen?_of_block (g.block _ hlt hne)]; exact h.fz, Nat.lt_of_lt_of_le hlt g.size⟩
theorem PrS.push (h : PrS W0 l v w) {p : Nat × Nat} (ho : W1.ownsRow (W0.heap.size + 1) 68 2 v' (l.length + 1) (rowP l ++ prCells p)) (g : w.grownBy W1 v.ownBlock) : PrS W0 (l ++ [p]) v' (W1.setCell ⟨W0.heap.size, 0, none⟩ v') := by
  obtain ⟨h1, h2, h3⟩ := h.keep g
  refine ⟨(Below.grown h.e g h.e.size (fun k hk => by have := (h.own.lt k hk).1; omega)).setCell (Nat.le_refl _) _, World.cell?_setCell_same _ _ _ h1, by rw [World.frozen?_setCell]; exact h2, setOther ?_ (by omega)⟩
  rw [rowP_append, List.length_append]
  simpa [rowP] using ho
theorem PrS.rp (h : PrS W0 l v w) (hl : l.length ≤ 1000) : ∃ a c, v = .slice a l.length c ∧ RP w a l := RP_of_own h.own (by omega)
end
/-- A model, pairs and an error. -/
def RetPr (A : Mo) (l : List (Nat × Nat)) (c : Int) (e : Ending) (w w' : World) : Prop := ∃ va ra la vc rc lc, e = .returned (.tuple #[.agg #[.int .i64 A.worlds, .slice va A.val.length vc, .slice ra A.rel.length rc], .slice la l.length lc, .int .i64 c]) ∧ RM w' va ra A ∧ RP w' la l ∧ Ext w w'
theorem RetPr.zero {w w' : World} (c : Int) (h : Ext w w') : RetPr ⟨0, [], []⟩ [] c (.returned (.tuple #[.agg #[.int .i64 0, .slice none 0 0, .slice none 0 0], .slice none 0 0, .int .i64 c])) w w' :=
  ⟨none, none, none, 0, 0, 0, rfl, ⟨RU.nil _ _, RR.nil _ _⟩, RP.nil _ _, h⟩
theorem bothS_congr {l : List (Nat × Nat)} {s t s' t' : BitVec 64} (h : ∀ i, i < l.length → bt s (nth l i).1 = bt s' (nth l i).1 ∧ bt t (nth l i).2 = bt t' (nth l i).2) : bothS l s t = bothS l s' t' := by
  unfold bothS
  refine setTo_congr fun k hk => ?_
  rw [(h k hk).1, (h k hk).2]
theorem bt_ones (k : Nat) : bt 18446744073709551615#64 k = decide (k < 64) := by
  have e : (18446744073709551615#64 : BitVec 64) = BitVec.allOnes 64 := by decide
  unfold bt
  rw [e, BitVec.getLsbD_allOnes]
end Wt

/- Walk: observe.clone. -/
namespace Wt
open Go Go.RowKit Go.Maps Go.Proofs Fm

theorem ou_cells {w : World} {sp : Option Addr} {M : List (BitVec 64)} (h : RU w sp M) {ad : Addr} (e : sp = some ad) : ∀ j v, (M.map uv)[j]? = some v → w.cell? (ad.add j) = some v := by
  intro j v hv
  rw [List.getElem?_map] at hv
  cases hj : M[j]? with
  | none => rw [hj] at hv; cases hv
  | some x =>
    rw [hj] at hv
    simp only [Option.map_some, Option.some.injEq] at hv
    subst hv
    obtain ⟨hlt, hx⟩ := List.getElem?_eq_some_iff.1 hj
    obtain ⟨b, off, e2, -, hc⟩ := h.get hlt
    rw [e2] at e
    simp only [Option.some.injEq] at e
    subst e
    rw [nth_eq _ _ hlt, hx] at hc
    rw [Addr.add_lit]; exact hc
/-- A whole row is copied over a row of the call's own. -/
theorem wpList_copy_ou {w : World} {ops : Array Oper} {rest : List Oper} {o : Oper} {a : Act} {Q : Exit → Act → World → Prop} (hgd : o.guard = none) (d s : Operand) (dT sT : TypeId)
    (ho : o.op = .call { callee := .builtin .copy, args := #[d, s], argTypes := #[dT, sT] }) (hu : Tryz.prog.underlying dT = some (.slice 44)) (hsz : (Tryz.prog.info? 44).map (·.size) = some 1)
    (dp sp : Option Addr) (n dCap sCap : Nat) (hd : a.eval d = .slice dp n dCap) (hs : a.eval s = .slice sp n sCap) {B : Nat} {L M : List (BitVec 64)} (hL : L.length = n) (hM : M.length = n)
    (hown : OU w B (.slice dp n dCap) L) (hsrc : RU w sp M)
    (h : ∀ w', Hid (OU w' B (.slice dp n dCap) M) → Hid (w.grownBy w' (Value.slice dp n dCap).ownBlock) → wpList Tryz.prog ops Q rest (a.put o.dst (goInt n)) w') : wpList Tryz.prog ops Q (o :: rest) a w := by
  by_cases h0 : n = 0
  · subst h0
    have e1 : L = [] := List.eq_nil_of_length_eq_zero hL
    have e2 : M = [] := List.eq_nil_of_length_eq_zero hM
    subst e1 e2
    refine wpList_copy_nothing hgd d s dT sT ho 44 hu hsz dp sp 0 dCap 0 sCap hd hs rfl ?_
    exact h w hown ⟨rfl, rfl, rfl, Nat.le_refl _, fun _ _ _ => rfl⟩
  · have ho2 := hown
    rcases hown.2 with ⟨e, h1⟩ | ⟨g, cap, cur, e, hb, hg, hnc, hcm, hcs, htake⟩
    · omega
    · simp only [Value.slice.injEq] at e
      obtain ⟨rfl, -, rfl⟩ := e
      obtain ⟨b, off, rfl, -, -⟩ := hsrc.get (k := 0) (by omega)
      have hml : (M.map uv).length = n := by simpa using hM
      refine wpList_copy_own hgd d s dT sT ho 44 hu hsz g 0 n dCap ⟨b, off, none⟩ n sCap hd hs cur _ hg (M.map uv) (by rw [hml]; exact (Nat.min_self n).symm) (ou_cells hsrc rfl) (by rw [hml]; omega) (uv_one M) ?_
      rw [hml]
      have hsize : g < w.heap.size := (Array.getElem?_eq_some_iff.1 hg).1
      refine h _ ?_ ?_
      · show OU _ _ _ _
        refine ⟨by simp, .inr ⟨g, dCap, ((cur.toList.take 0 ++ (M.map uv ++ cur.toList.drop (0 + n)))).toArray, by rw [hM], hb, setRow_heap w g _ _ _ _ hg, by omega, hcm, ?_, ?_⟩⟩
        · simp; omega
        · simp
      · refine ⟨rfl, rfl, rfl, by simp [World.setRow], fun k _ hk => setRow_other w g k _ (fun e => hk (by simp [Value.ownBlock, e]))⟩
theorem OU.kept' {w w' : World} {B g : Nat} {v : Value} {l : List (BitVec 64)} (h : OU w B v l) (gr : w.grownBy w' (some g)) (hv : v.ownBlock ≠ some g) : OU w' B v l := World.ownsRow.kept h gr (.inr hv)
/-- The copy under way: its sets, the rows that are done. -/
structure ClI (W0 : World) (bo bv br : Nat) (W : Int) (nR : Nat) (V : List (BitVec 64)) (R : List (List (BitVec 64))) (svs : List Value) (wr : World) : Prop where
  e : Ext W0 wr
  lo : W0.heap.size ≤ bo
  out : OutAt wr bo (.int .i64 W) (.slice (some ⟨bv, 0, none⟩) V.length V.length) (.slice (some ⟨br, 0, none⟩) nR nR)
  ov : OU wr W0.heap.size (.slice (some ⟨bv, 0, none⟩) V.length V.length) V
  orr : OG wr W0.heap.size 22 (fun v : Value => v) br nR nR svs
  nv : bv ≠ bo
  nr : br ≠ bo
  nvr : bv ≠ br
  rw : ∀ j, j < R.length → OU wr W0.heap.size (nth svs j) (nth R j)
  dj : ∀ i j, i < j → j < R.length → Apart (nth svs j) (nth svs i)
  dv : ∀ j, j < R.length → Apart (nth svs j) (.slice (some ⟨bv, 0, none⟩) V.length V.length)
  nb : ∀ j, j < R.length → (nth svs j).ownBlock ≠ some bo
section
variable {W0 wr w' : World} {bo bv br : Nat} {W : Int} {nR : Nat} {V : List (BitVec 64)} {R : List (List (BitVec 64))} {svs : List Value}
theorem ClI.ext' (h : ClI W0 bo bv br W nR V R svs wr) (e : Ext wr w') : ClI W0 bo bv br W nR V R svs w' :=
  ⟨h.e.trans e, h.lo, h.out.ext e, OU.ext h.ov e, h.orr.ext e, h.nv, h.nr, h.nvr, fun j hj => OU.ext (h.rw j hj) e, h.dj, h.dv, h.nb⟩
/-- The sets are copied. -/
theorem ClI.vals {Z : List (BitVec 64)} (h : ClI W0 bo bv br W nR Z [] svs wr) (hl : Z.length = V.length) (ho : OU w' W0.heap.size (.slice (some ⟨bv, 0, none⟩) V.length V.length) V) (g : wr.grownBy w' (some bv)) : ClI W0 bo bv br W nR V [] svs w' := by
  have hb := h.ov.lt bv rfl
  have hv := h.nv
  have hvr := h.nvr
  have ho1 := h.out
  rw [hl] at ho1
  refine ⟨Below.grown h.e g h.e.size (fun k hk => by simp at hk; omega), h.lo, ho1.keep (g.block _ h.out.lt (by simpa using fun e => hv e.symm)), ho, ⟨h.orr.len, h.orr.row.kept g (.inr (by simpa [Value.ownBlock] using fun e => hvr e.symm))⟩, h.nv, h.nr, h.nvr, fun j hj => absurd hj (by simp), fun i j _ hj => absurd hj (by simp), fun j hj => absurd hj (by simp), fun j hj => absurd hj (by simp)⟩
/-- A row is laid and its place told. -/
theorem ClI.lay (h : ClI W0 bo bv br W nR V R svs wr) {k n : Nat} (hk : k < nR) (hR : R.length = k) (hn : n ≤ 1000) :
    br < wr.heap.size ∧ wr.frozen? ⟨br, k, none⟩ = false ∧ (∃ u, wr.cell? ⟨br, k, none⟩ = some u) ∧
    ClI W0 bo bv br W nR V R (svs.set k (.slice (some ⟨wr.heap.size, 0, none⟩) n n)) ((wr.alloc (.cells (madeCells #[.int .u64 0] n) 44)).setCell ⟨br, k, none⟩ (.slice (some ⟨wr.heap.size, 0, none⟩) n n)) ∧
    OU ((wr.alloc (.cells (madeCells #[.int .u64 0] n) 44)).setCell ⟨br, k, none⟩ (.slice (some ⟨wr.heap.size, 0, none⟩) n n)) W0.heap.size (.slice (some ⟨wr.heap.size, 0, none⟩) n n) (List.replicate n 0#64) := by
  have hbr := h.orr.lt
  have hbl := h.orr.base_le
  have hnr := h.nr
  have hvr := h.nvr
  have e := (Ext.refl wr).alloc (.cells (madeCells #[.int .u64 0] n) 44)
  have h2 := h.ext' e
  have hne : ∀ {T sz m : Nat} {v : Value} {xs : List Value}, T ≠ 22 → (wr.alloc (.cells (madeCells #[.int .u64 0] n) 44)).ownsRow W0.heap.size T sz v m xs → ((wr.alloc (.cells (madeCells #[.int .u64 0] n) 44)).setCell ⟨br, k, none⟩ (.slice (some ⟨wr.heap.size, 0, none⟩) n n)).ownsRow W0.heap.size T sz v m xs := fun hT ho => ownRow_set ho (own_ne ho h2.orr.row hT)
  refine ⟨hbr, h.orr.frozen k, ⟨_, h.orr.cell hk⟩, ⟨h2.e.setCell (by simpa using hbl) _, h.lo, h2.out.other (fun e => hnr e.symm), hne (by decide) h2.ov, h2.orr.set k _, h.nv, h.nr, h.nvr, fun j hj => ?_, fun i j hij hj => ?_, fun j hj => ?_, fun j hj => ?_⟩, ?_⟩
  · rw [nth_setO _ (by omega)]
    exact hne (by decide) (h2.rw j hj)
  · rw [nth_setO _ (by omega), nth_setO _ (by omega)]; exact h.dj i j hij hj
  · rw [nth_setO _ (by omega)]; exact h.dv j hj
  · rw [nth_setO _ (by omega)]; exact h.nb j hj
  · refine hne (by decide) ?_
    have := OG.made (enc := uv) (T := 44) (base := W0.heap.size) wr n 0#64 h.e.size (by omega)
    rw [List.length_replicate]
    exact this.row
theorem ClI.lay' (h : ClI W0 bo bv br W nR V R svs wr) {k n : Nat} (hk : k < nR) (hR : R.length = k) (hn : n ≤ 1000) :
    ClI W0 bo bv br W nR V R (svs.set k (.slice (some ⟨wr.heap.size, 0, none⟩) n n)) ((wr.setCell ⟨br, k, none⟩ (.slice (some ⟨wr.heap.size, 0, none⟩) n n)).alloc (.cells (madeCells #[.int .u64 0] n) 44)).drew ∧
    OU ((wr.setCell ⟨br, k, none⟩ (.slice (some ⟨wr.heap.size, 0, none⟩) n n)).alloc (.cells (madeCells #[.int .u64 0] n) 44)).drew W0.heap.size (.slice (some ⟨wr.heap.size, 0, none⟩) n n) (List.replicate n 0#64) := by
  obtain ⟨h1, -, -, h4, h5⟩ := h.lay hk hR hn
  rw [World.setCell_alloc_past _ _ _ _ h1] at h4 h5
  exact ⟨h4.ext' (Ext.refl _).drew, OU.ext h5 (Ext.refl _).drew⟩
/-- The row is copied. -/
theorem ClI.row (h : ClI W0 bo bv br W nR V R svs wr) {k n g : Nat} {r : List (BitVec 64)} (hk : k < nR) (hR : R.length = k) (hs : nth svs k = .slice (some ⟨g, 0, none⟩) n n) (hg : ∀ j, j < k → (nth svs j).ownBlock ≠ some g) (hgv : g ≠ bv) (hgo : g ≠ bo) (ho0 : ∃ L, OU wr W0.heap.size (.slice (some ⟨g, 0, none⟩) n n) L) (ho : OU w' W0.heap.size (.slice (some ⟨g, 0, none⟩) n n) r) (gr : wr.grownBy w' (some g)) : ClI W0 bo bv br W nR V (R ++ [r]) svs w' := by
  obtain ⟨L, ho0⟩ := ho0
  have hb := ho0.lt g rfl
  have hgr : g ≠ br := fun e => by
    rcases own_ne (show wr.ownsRow _ _ _ _ _ _ from ho0) h.orr.row (by decide) with h5 | h5
    · cases h5
    · exact h5 (by simp [Value.ownBlock, e])
  have happ : ∀ j, j < k + 1 → nth (R ++ [r]) j = if j < k then nth R j else r := fun j hj => by
    by_cases h1 : j < k
    · rw [if_pos h1, nth_appL _ _ (by omega)]
    · obtain rfl : j = k := by omega
      have e2 := nth_appR R [r] (k := 0) (by simp)
      rw [Nat.add_zero, hR] at e2
      rw [if_neg h1, e2]; rfl
  have hlen : (R ++ [r]).length = k + 1 := by simp [hR]
  refine ⟨Below.grown h.e gr h.e.size (fun q hq => by simp at hq; omega), h.lo, h.out.keep (gr.block _ h.out.lt (by simpa using fun e => hgo e.symm)), OU.kept' h.ov gr (fun e => hgv (by simpa [Value.ownBlock] using e.symm)), ⟨h.orr.len, h.orr.row.kept gr (.inr (by simpa [Value.ownBlock] using fun e => hgr e.symm))⟩, h.nv, h.nr, h.nvr, fun j hj => ?_, fun i j hij hj => ?_, fun j hj => ?_, fun j hj => ?_⟩
  all_goals rw [hlen] at hj
  · rw [happ j hj]
    by_cases h1 : j < k
    · rw [if_pos h1]
      exact (h.rw j (by omega)).kept gr (.inr (hg j h1))
    · rw [if_neg h1]
      obtain rfl : j = k := by omega
      rw [hs]; exact ho
  · by_cases h1 : j < k
    · exact h.dj i j hij (by omega)
    · obtain rfl : j = k := by omega
      rw [hs]
      exact .inr fun e => hg i hij e.symm
  · by_cases h1 : j < k
    · exact h.dv j (by omega)
    · obtain rfl : j = k := by omega
      rw [hs]
      exact .inr (by simpa [Value.ownBlock] using hgv)
  · by_cases h1 : j < k
    · exact h.nb j (by omega)
    · obtain rfl : j = k := by omega
      rw [hs]; simpa [Value.ownBlock] using hgo
end
theorem sl_infoC : (Tryz.prog.info? 22).map (fun i => (i.zero, i.size, i.bytes)) = some (some (.slice none 0 0), 1, 24) := by kernel_rfl
def ClE (W0 : World) (n : Nat) (W : Int) (nV nR : Nat) (s3 : Value) (wc : World) : Prop := ∃ bo bv br, s3 = .pointer (some ⟨bo, 0, none⟩) ∧ n + 2 ≤ bo ∧ ClI W0 bo bv br W nR (List.replicate nV 0#64) [] (List.replicate nR (.slice none 0 0)) wc
section
variable {W0 : World} {x y z : Obj} {b : Nat}
theorem og_at0 {α : Type} {T n base : Nat} {enc : α → Value} {v : α} (hb : b = W0.heap.size) (h : base ≤ W0.heap.size) (hn : n ≤ 1000) : OG (((W0.alloc (.cells (madeCells #[enc v] n) T)).alloc y).alloc z).drew base T enc b n n (List.replicate n v) := by
  subst hb
  exact (OG.made W0 n v h (by omega)).ext (((Ext.refl _).alloc _).alloc _).drew
theorem og_at1 {α : Type} {T n base : Nat} {enc : α → Value} {v : α} (hb : b = W0.heap.size + 1) (h : base ≤ W0.heap.size) (hn : n ≤ 1000) : OG (((W0.alloc x).alloc (.cells (madeCells #[enc v] n) T)).alloc z).drew base T enc b n n (List.replicate n v) := by
  have e : b = (W0.alloc x).heap.size := by simp; omega
  subst e
  exact (OG.made (W0.alloc x) n v (by simp; omega) (by omega)).ext ((Ext.refl _).alloc _).drew
theorem og_at2 {α : Type} {T n base : Nat} {enc : α → Value} {v : α} (hb : b = W0.heap.size + 2) (h : base ≤ W0.heap.size) (hn : n ≤ 1000) : OG (((W0.alloc x).alloc y).alloc (.cells (madeCells #[enc v] n) T)).drew base T enc b n n (List.replicate n v) := by
  have e : b = ((W0.alloc x).alloc y).heap.size := by simp; omega
  subst e
  exact (OG.made ((W0.alloc x).alloc y) n v (by simp; omega) (by omega)).ext (Ext.refl _).drew
theorem out_at0 {u v s : Value} {T : Nat} (hb : b = W0.heap.size) : OutAt (((W0.alloc (.cells #[u, v, s] T)).alloc y).alloc z).drew b u v s := by
  subst hb
  exact (OutAt.new W0 u v s T).ext (((Ext.refl _).alloc _).alloc _).drew
theorem out_at1 {u v s : Value} {T : Nat} (hb : b = W0.heap.size + 1) : OutAt (((W0.alloc x).alloc (.cells #[u, v, s] T)).alloc z).drew b u v s := by
  have e : b = (W0.alloc x).heap.size := by simp; omega
  subst e
  exact (OutAt.new (W0.alloc x) u v s T).ext ((Ext.refl _).alloc _).drew
theorem out_at2 {u v s : Value} {T : Nat} (hb : b = W0.heap.size + 2) : OutAt (((W0.alloc x).alloc y).alloc (.cells #[u, v, s] T)).drew b u v s := by
  have e : b = ((W0.alloc x).alloc y).heap.size := by simp; omega
  subst e
  exact (OutAt.new ((W0.alloc x).alloc y) u v s T).ext (Ext.refl _).drew
end
section
variable {W0 : World} {x y z : Obj} {b n base : Nat}
theorem ogv_at0 (hb : b = W0.heap.size) (h : base ≤ W0.heap.size) (hn : n ≤ 1000) : OG (((W0.alloc (.cells (madeCells #[.int .u64 0] n) 44)).alloc y).alloc z).drew base 44 uv b n n (List.replicate n 0#64) := og_at0 (enc := uv) (v := 0#64) (T := 44) hb h hn
theorem ogv_at1 (hb : b = W0.heap.size + 1) (h : base ≤ W0.heap.size) (hn : n ≤ 1000) : OG (((W0.alloc x).alloc (.cells (madeCells #[.int .u64 0] n) 44)).alloc z).drew base 44 uv b n n (List.replicate n 0#64) := og_at1 (enc := uv) (v := 0#64) (T := 44) hb h hn
theorem ogv_at2 (hb : b = W0.heap.size + 2) (h : base ≤ W0.heap.size) (hn : n ≤ 1000) : OG (((W0.alloc x).alloc y).alloc (.cells (madeCells #[.int .u64 0] n) 44)).drew base 44 uv b n n (List.replicate n 0#64) := og_at2 (enc := uv) (v := 0#64) (T := 44) hb h hn
theorem ogr_at0 (hb : b = W0.heap.size) (h : base ≤ W0.heap.size) (hn : n ≤ 1000) : OG (((W0.alloc (.cells (madeCells #[.slice none 0 0] n) 22)).alloc y).alloc z).drew base 22 (fun v : Value => v) b n n (List.replicate n (.slice none 0 0)) := og_at0 (enc := fun v : Value => v) (v := .slice none 0 0) (T := 22) hb h hn
theorem ogr_at1 (hb : b = W0.heap.size + 1) (h : base ≤ W0.heap.size) (hn : n ≤ 1000) : OG (((W0.alloc x).alloc (.cells (madeCells #[.slice none 0 0] n) 22)).alloc z).drew base 22 (fun v : Value => v) b n n (List.replicate n (.slice none 0 0)) := og_at1 (enc := fun v : Value => v) (v := .slice none 0 0) (T := 22) hb h hn
theorem ogr_at2 (hb : b = W0.heap.size + 2) (h : base ≤ W0.heap.size) (hn : n ≤ 1000) : OG (((W0.alloc x).alloc y).alloc (.cells (madeCells #[.slice none 0 0] n) 22)).drew base 22 (fun v : Value => v) b n n (List.replicate n (.slice none 0 0)) := og_at2 (enc := fun v : Value => v) (v := .slice none 0 0) (T := 22) hb h hn
end
theorem ClE.mk {W0 wc : World} {n nV nR bo bv br : Nat} {W : Int} (hn : W0.heap.size = n + 2) (e : Ext W0 wc) (ho : OutAt wc bo (.int .i64 W) (.slice (some ⟨bv, 0, none⟩) nV nV) (.slice (some ⟨br, 0, none⟩) nR nR)) (hv : OG wc W0.heap.size 44 uv bv nV nV (List.replicate nV 0#64)) (hr : OG wc W0.heap.size 22 (fun v : Value => v) br nR nR (List.replicate nR (.slice none 0 0))) (h1 : n + 2 ≤ bo) (h2 : bv ≠ bo) (h3 : br ≠ bo) (h4 : bv ≠ br) : ClE W0 n W nV nR (.pointer (some ⟨bo, 0, none⟩)) wc := by
  refine ⟨bo, bv, br, rfl, h1, e, by omega, ?_, ?_, hr, h2, h3, h4, fun j hj => absurd hj (by simp), fun i j _ hj => absurd hj (by simp), fun j hj => absurd hj (by simp), fun j hj => absurd hj (by simp)⟩
  · rw [List.length_replicate]; exact ho
  · unfold OU; rw [List.length_replicate]; exact hv.row
set_option maxRecDepth 20000 in
set_option maxHeartbeats 4000000 in
theorem oclone_any (M : Mo) (va ra : Option Addr) (vc rc : Nat) (w : World) (N : Nat) (ok : MoOk M N) (hm : RM w va ra M) :
    Calls Tryz.prog 20 #[.agg #[.int .i64 M.worlds, .slice va M.val.length vc, .slice ra M.rel.length rc]] w fun e w' => RetMO M e w w' := by
  have hv8 := ok.val
  have hr4 := ok.rel
  have hn64 := ok.most
  have hrow := ok.row
  have hbx := MoBox.new w M.worlds M.val M.rel va vc ra rc 25
  have hE0 : Ext w ((w.alloc (.cells #[.int .i64 M.worlds, .slice va M.val.length vc, .slice ra M.rel.length rc] 25)).alloc (.cells #[.int .i64 0, .slice none 0 0, .slice none 0 0] 25)) := ((Ext.refl w).alloc _).alloc _
  have hbx0 := hbx.ext ((Ext.refl _).alloc (.cells #[.int .i64 0, .slice none 0 0, .slice none 0 0] 25))
  have hm0 := hm.ext hE0
  have HBX := Lib.hid hbx0
  obtain ⟨m0, m1, m2⟩ := hbx0
  dsimp only at m0 m1 m2
  have HE := Lib.hid hE0
  have HM := Lib.hid hm0
  have HR := Lib.hid (OutAt.new1 w (.cells #[.int .i64 M.worlds, .slice va M.val.length vc, .slice ra M.rel.length rc] 25) (.int .i64 0) (.slice none 0 0) (.slice none 0 0) 25)
  have hs0 : ((w.alloc (.cells #[.int .i64 M.worlds, .slice va M.val.length vc, .slice ra M.rel.length rc] 25)).alloc (.cells #[.int .i64 0, .slice none 0 0, .slice none 0 0] 25)).heap.size = w.heap.size + 2 := by simp
  have HS0 := Lib.hid hs0
  have HROW := Lib.hid hrow
  have mk1 := fun (w : World) => run_make_row' (P := Tryz.prog) 22 44 (.int .u64 0) 8 Tryz.underlying22 u64_info rfl .i64 .i64 M.val.length (by omega) (by omega) w
  have mk2 := fun (w : World) => run_make_row' (P := Tryz.prog) 23 22 (.slice none 0 0) 24 Tryz.underlying23 sl_infoC rfl .i64 .i64 M.rel.length (by omega) (by omega) w
  clear hm hbx hE0 hm0 hrow ok
  go_enter Tryz.func20, Tryz.ntmps20
  go_upto_region 1 with fail
  have hb : w.heap.size < (w.alloc (.cells #[.int .i64 M.worlds, .slice va M.val.length vc, .slice ra M.rel.length rc] 25)).heap.size + 1 := by simp; omega
  generalize (w.alloc (.cells #[.int .i64 M.worlds, .slice va M.val.length vc, .slice ra M.rel.length rc] 25)).alloc (.cells #[.int .i64 0, .slice none 0 0, .slice none 0 0] 25) = W0 at *
  go_cut [3] from 6 to 16 (fun s3 wc => ClE W0 w.heap.size M.worlds M.val.length M.rel.length s3 wc)
  case first =>
    have hw0 : w.heap.size < W0.heap.size := by omega
    go_region
    all_goals
      go_wp2_with fail
      go_meet
      case rel =>
        have hn := HS0.out
        apply ClE.mk hn (((((Ext.refl _).alloc _).alloc _).alloc _).drew)
        all_goals try (first | (with_reducible refine out_at0 ?_) | (with_reducible refine out_at1 ?_) | (with_reducible refine out_at2 ?_))
        all_goals try (first | (with_reducible refine ogv_at0 ?_ ?_ ?_) | (with_reducible refine ogv_at1 ?_ ?_ ?_) | (with_reducible refine ogv_at2 ?_ ?_ ?_))
        all_goals try (first | (with_reducible refine ogr_at0 ?_ ?_ ?_) | (with_reducible refine ogr_at1 ?_ ?_ ?_) | (with_reducible refine ogr_at2 ?_ ?_ ?_))
        all_goals omega
  case rest =>
    obtain ⟨bo, bv, br, rfl, hbo, hI⟩ := hcut
    rename World => wc
    have HI := Lib.hid hI
    obtain ⟨m0, m1, m2⟩ := HBX.out.ext hI.e
    dsimp only at m0 m1 m2
    obtain ⟨o0, o1, o2, -⟩ := hI.out
    rw [List.length_replicate] at o1
    have hov := hI.ov
    rw [List.length_replicate] at hov
    have HOV := Lib.hid hov
    have hru := HM.out.val.ext hI.e
    have HRU := Lib.hid hru
    have hol := hI.out.lt
    have hbl : w.heap.size < wc.heap.size := World.block_lt_of_cell? _ _ m0
    clear hI hov hru mk1
    go_wp2_with (refine wpList_copy_ou rfl (.tmp 18) (.tmp 20) 22 22 rfl Tryz.underlying22 (by kernel_rfl) (some ⟨bv, 0, none⟩) va M.val.length M.val.length vc rfl rfl (L := List.replicate M.val.length 0#64) (M := M.val) (by simp) rfl HOV.out HRU.out ?_; intro w5 HOV5 HG5; have hI5 := HI.out.vals (by simp) HOV5.out HG5.out; have HI5 := Lib.hid hI5; obtain ⟨p0, p1, p2⟩ := HBX.out.ext hI5.e; dsimp only at p0 p1 p2; clear hI5 m0 m1 m2 o0 o1 o2 hol hbl)
    go_loopw [25] (fun i wr => ∃ k : Nat, k ≤ M.rel.length ∧ i = .int .i64 (k : Int) ∧ ∃ svs, ClI W0 bo bv br M.worlds M.rel.length M.val (M.rel.take k) svs wr) (fun i _ => M.rel.length - (intOf i).toNat)
    case atStart => exact ⟨0, Nat.zero_le _, rfl, _, HI5.out⟩
    case round =>
      obtain ⟨k, hk, rfl, svs, hI⟩ := hrel
      have HIk := Lib.hid hI
      by_cases hkl : k < M.rel.length
      · obtain ⟨b, off, a', c', rfl, hb0, hc0, hu⟩ := HM.out.rel.get hkl
        have hc1 := hI.e.cell hc0
        have hb1 := World.block_lt_of_cell? _ _ hc1
        clear hc0 hb0
        have hrl : (nth M.rel k).length = N := HROW.out _ (nth_mem hkl)
        obtain ⟨o0, o1, o2, -⟩ := hI.out
        have hol := hI.out.lt
        have htk : (M.rel.take k).length = k := by rw [List.length_take]; omega
        obtain ⟨l1, l2, ⟨u, l3⟩, -, -⟩ := hI.lay (n := (nth M.rel k).length) hkl htk (by omega)
        obtain ⟨l4, l5⟩ := hI.lay' (n := (nth M.rel k).length) hkl htk (by omega)
        have HU := Lib.hid hu
        have HL4 := Lib.hid l4
        have HL5 := Lib.hid l5
        have HTK := Lib.hid htk
        have mk3 := fun (w : World) => run_make_row' (P := Tryz.prog) 22 44 (.int .u64 0) 8 Tryz.underlying22 u64_info rfl .i64 .i64 (nth M.rel k).length (by omega) (by omega) w
        have HRL := Lib.hid hrl
        clear hI hu l4 l5 htk hrl
        generalize hrw : nth M.rel k = row at *
        have HRW := Lib.hid hrw
        clear hrw
        go_wp2_with fail
        go_region
        have hsz2 : wr.heap.size < ((wr.setCell ⟨br, k, none⟩ (.slice (some ⟨wr.heap.size, 0, none⟩) row.length row.length)).alloc (.cells (madeCells #[.int .u64 0] row.length) 44)).drew.heap.size := by simp
        have hgs : ∀ j, j < k → (nth svs j).ownBlock ≠ some wr.heap.size := fun j hj e => by
          have := ((HIk.out.rw j (by rw [HTK.out]; exact hj)).lt _ e).2
          omega
        have hgv : wr.heap.size ≠ bv := by have := (HIk.out.ov.lt bv rfl).2; omega
        have hgo : wr.heap.size ≠ bo := by have := HIk.out.out.lt; omega
        have HGS := Lib.hid hgs
        have HGV := Lib.hid hgv
        have HGO := Lib.hid hgo
        have hsl := HIk.out.orr.len
        have HSL := Lib.hid hsl
        clear hgs hgv hgo hsl l2 l3 hsz2 o0 o1 o2 mk3
        generalize ((wr.setCell ⟨br, k, none⟩ (.slice (some ⟨wr.heap.size, 0, none⟩) row.length row.length)).alloc (.cells (madeCells #[.int .u64 0] row.length) 44)).drew = w6 at *
        generalize wr.heap.size = g at *
        obtain ⟨o0, o1, o2, -⟩ := HL4.out.out
        have hc6 := HL4.out.orr.cell hkl
        rw [nth_setS _ (by rw [HSL.out]; exact hkl)] at hc6
        have hbr6 := HL4.out.orr.lt
        have hu6 : RU w6 a' row := HU.out.ext HL4.out.e
        have HU6' := Lib.hid hu6
        clear hu6
        go_wp2_with (refine wpList_copy_ou rfl (.tmp 41) (.tmp 42) 22 22 rfl Tryz.underlying22 (by kernel_rfl) (some ⟨g, 0, none⟩) a' row.length row.length c' rfl rfl (L := List.replicate row.length 0#64) (M := row) (by simp) rfl HL5.out HU6'.out ?_; intro w7 HOV7 HG7; have hI7 := HL4.out.row (k := k) (n := row.length) (g := g) (r := row) hkl HTK.out (nth_setS _ (by rw [HSL.out]; exact hkl)) (fun j hj => by rw [nth_setO _ (by omega)]; exact HGS.out j hj) HGV.out HGO.out ⟨_, HL5.out⟩ HOV7.out HG7.out; have HI7 := Lib.hid hI7; clear hI7 o0 o1 o2 hc6 hbr6)
        go_roundw
        case rel => exact ⟨k + 1, hkl, by go_num, _, by
          have e : M.rel.take (k + 1) = M.rel.take k ++ [row] := by
            rw [← HRW.out, nth_eq _ _ hkl, List.take_add_one, List.getElem?_eq_getElem hkl]; rfl
          rw [e]; exact HI7.out⟩
        case measure => simp [intOf]; omega
      · obtain rfl : k = M.rel.length := by omega
        have hfull : M.rel.take M.rel.length = M.rel := List.take_length
        rw [hfull] at hI
        have HI9 := Lib.hid hI
        obtain ⟨o0, o1, o2, -⟩ := hI.out
        have hol := hI.out.lt
        have hh := HR.out.ext hI.e
        have HH := Lib.hid hh
        obtain ⟨r0, r1, r2, rfz⟩ := hh
        have f0 := rfz 0
        have f1 := rfz 1
        have f2 := rfz 2
        have hrl := HH.out.lt
        have HEW := Lib.hid (HE.out.trans hI.e)
        clear hI HIk hfull rfz
        go_wp2
        have hk2 : ∀ {T sz m : Nat} {v : Value} {xs : List Value}, wr.ownsRow W0.heap.size T sz v m xs → (((wr.setCell ⟨w.heap.size + 1, 0, none⟩ (.int .i64 M.worlds)).setCell ⟨w.heap.size + 1, 1, none⟩ (.slice (some ⟨bv, 0, none⟩) M.val.length M.val.length)).setCell ⟨w.heap.size + 1, 2, none⟩ (.slice (some ⟨br, 0, none⟩) M.rel.length M.rel.length)).ownsRow W0.heap.size T sz v m xs := by
          intro T sz m v xs ho
          have := HS0.out
          exact setOther (setOther (setOther ho (by omega)) (by omega)) (by omega)
        obtain ⟨d0, d1, d2, -⟩ := ((HH.out.set0 (.int .i64 M.worlds)).set1 (.slice (some ⟨bv, 0, none⟩) M.val.length M.val.length)).set2 (.slice (some ⟨br, 0, none⟩) M.rel.length M.rel.length)
        have hEx : Ext w (((wr.setCell ⟨w.heap.size + 1, 0, none⟩ (.int .i64 M.worlds)).setCell ⟨w.heap.size + 1, 1, none⟩ (.slice (some ⟨bv, 0, none⟩) M.val.length M.val.length)).setCell ⟨w.heap.size + 1, 2, none⟩ (.slice (some ⟨br, 0, none⟩) M.rel.length M.rel.length)) := HEW.out.set3 (by simp) _ _ _
        have hovF := hk2 HI9.out.ov
        have horF := hk2 HI9.out.orr.row
        have hrwF := fun j hj => hk2 (HI9.out.rw j hj)
        generalize ((wr.setCell ⟨w.heap.size + 1, 0, none⟩ (.int .i64 M.worlds)).setCell ⟨w.heap.size + 1, 1, none⟩ (.slice (some ⟨bv, 0, none⟩) M.val.length M.val.length)).setCell ⟨w.heap.size + 1, 2, none⟩ (.slice (some ⟨br, 0, none⟩) M.rel.length M.rel.length) = W2 at *
        refine bodyPost_ret (v := .agg #[.int .i64 M.worlds, .slice (some ⟨bv, 0, none⟩) M.val.length M.val.length, .slice (some ⟨br, 0, none⟩) M.rel.length M.rel.length]) ?_ rfl ?_
        · rw [results_cell_oneA rfl]
          go_simp
        · have hww : ∀ j, j < M.rel.length → (nth M.rel j).length ≤ 140737488355328 := fun j hj => by
            have := HROW.out _ (nth_mem hj)
            omega
          have hsl := HI9.out.orr.len
          have hS0 := HS0.out
          have hF : FrM w.heap.size W2 (some ⟨bv, 0, none⟩) (some ⟨br, 0, none⟩) M.val.length M.rel.length M svs :=
            ⟨OU.mono (b' := w.heap.size) hovF (by omega), own_mono (by rw [hsl]; simpa using horF) (by omega), hsl, fun j hj => OU.mono (b' := w.heap.size) (hrwF j hj) (by omega), fun i j hij hj => HI9.out.dj i j hij (by omega), fun j hj => HI9.out.dv j (by omega), ⟨by omega, by omega, hww⟩⟩
          exact ⟨_, _, _, _, svs, rfl, hF, hEx⟩
end Wt

/- Walk: announce.Whether. -/
namespace Wt
open Go Go.RowKit Go.Maps Go.Proofs Fm

/-- A model and an error. -/
def RetW (A : Mo) (c : Int) (e : Ending) (w w' : World) : Prop := ∃ va ra vc rc, e = .returned (.tuple #[.agg #[.int .i64 A.worlds, .slice va A.val.length vc, .slice ra A.rel.length rc], .int .i64 c]) ∧ (∀ w'', Agree w.heap.size w' w'' → RM w'' va ra A) ∧ Ext w w'
theorem results_cell_v {fn : Func} {p u : Tmp} {ty : TypeId} (h : fn.results = #[.cell p ty, .tmp u]) (tmps : Array Value) (P : Program) (w : World) :
    (results fn tmps).run P w = ((asAddr (tmps.getD p undef)).run P w).andThen fun a w₁ => ((loadVar ty a).run P w₁).andThen fun y w₂ => .ok (.tuple #[y, tmps.getD u undef]) w₂ := by
  simp only [results, h]
  simp [Sem.run_bind, Result.andThen]
theorem RetW.zero {w w' : World} (c : Int) (h : Ext w w') : RetW ⟨0, [], []⟩ c (.returned (.tuple #[.agg #[.int .i64 0, .slice none 0 0, .slice none 0 0], .int .i64 c])) w w' :=
  ⟨none, none, 0, 0, rfl, fun _ _ => ⟨RU.nil _ _, RR.nil _ _⟩, h⟩
end Wt
