/- The arguments of a statement, opened: a model, a formula. -/
import Derived.Test.YtbeaagnahldefaaDoorM7Ao
import Derived.ProofKit
import Derived.Deep.Matrix
import Derived.Deep.Strs
import Derived.Deep.Slices
import Derived.SizedLaws
import Derived.Test.YtbeaagnahldefaaDoorM7Am
import Derived.Deep.AppendLies
import Derived.Shelf.Spec.TrailingZeros
import Derived.Test.YtbeaagnahldefaaDoorRows
import Derived.LaidMore
import Derived.OpenShut
namespace Wt
open Go Go.ChangeShapes Go.WideShapes Go.ChangeAt Go.RowKit Go.Deep Go.Proofs Fm

theorem spot_of {w : World} {a : Addr} {v : Value} (h : w.cell? a = some v) : a = ⟨a.block, a.off, none⟩ := by
  obtain ⟨b, o, s⟩ := a
  cases s with
  | none => rfl
  | some n =>
    exfalso
    simp only [World.cell?] at h
    split at h <;> simp at h
theorem add_at (b o k : Nat) : (⟨b, o, none⟩ : Addr).add k = ⟨b, o + k, none⟩ := by
  unfold Addr.add
  split
  · rename_i h; subst h; rfl
  · rfl
theorem un_ofInt {n : Int} (h : (Lit.int .u64 n).wf = true) : un (BitVec.ofInt 64 n) = n := by
  simp only [Lit.wf, Bool.and_eq_true, decide_eq_true_eq] at h
  have h1 : (0 : Int) ≤ n := h.1
  have h2 : n ≤ 18446744073709551615 := h.2
  unfold un
  rw [BitVec.toNat_ofInt]
  omega
theorem reach_le : reachBytes ≤ 140737488355328 := by decide
section
variable {H : Type} {enc : TypeId × Value → H} {w : World}
/-- A slice of sets. -/
theorem open_ru {fuel : Nat} {cs : List Value} {x : DataW H × List MemPlace} (h : DataW.trod enc Tryd.prog w 0 (fun _ => true) true fuel 22 cs = some x) (hz : ∀ n ∈ x.1.weights Tryd.prog 22, n ≤ reachBytes) :
    ∃ a l c, cs = [.slice a (l : List (BitVec 64)).length c] ∧ RU w a l := by
  rcases open_ints Tryd.underlying22 Tryd.underlying40 (by kernel_rfl) h with ⟨rfl, _⟩ | ⟨a, len, cap, zs, rfl, _, hl, hc, hzl, hx, hcell, hwf⟩
  · exact ⟨none, [], 0, rfl, RU.nil _ _⟩
  · simp only [if_true] at hzl
    rw [hx] at hz
    have hw := hz ((lits (H := H) .u64 (zs.take len)).length * Tryd.prog.bytesOf 40 + (lits (H := H) .u64 (zs.drop len)).length * Tryd.prog.bytesOf 40) (by
      simp [DataW.weights, Tryd.underlying22, Nat.add_mul])
    have hb : Tryd.prog.bytesOf 40 = 8 := by kernel_rfl
    rw [hb] at hw
    have hll : (lits (H := H) .u64 (zs.take len)).length = len := by simp [lits]; omega
    rw [hll] at hw
    have hr := reach_le
    refine ⟨some a, (zs.take len).map (BitVec.ofInt 64), cap, by simp; omega, ⟨by simp; omega, fun k hk => ?_⟩⟩
    have hk' : k < len := by simp at hk; omega
    have h0 := hcell 0 (by omega)
    have ha := spot_of (by simpa [Addr.add] using h0)
    have hck := hcell k (by omega)
    rw [ha, add_at] at hck
    refine ⟨a.block, a.off, by rw [← ha], ?_⟩
    rw [hck]
    have hzk : zs.getD k 0 = zs[k]'(by omega) := by simp [List.getD, List.getElem?_eq_getElem (show k < zs.length by omega)]
    have hn : nth ((zs.take len).map (BitVec.ofInt 64)) k = BitVec.ofInt 64 (zs[k]'(by omega)) := by
      rw [nth_eq _ _ hk]; simp
    rw [hn, hzk, un_ofInt (hwf _ (List.getElem_mem _))]
theorem mem_weightsAll {P : Program} {e : TypeId} {n : Nat} {d : DataW H} : ∀ {l : List (DataW H)}, d ∈ l → n ∈ d.weights P e → n ∈ DataW.weightsAll P e l
  | d0 :: l, hd, hn => by
    simp only [DataW.weightsAll, List.mem_append]
    rcases List.mem_cons.1 hd with rfl | hd
    · exact .inl hn
    · exact .inr (mem_weightsAll hd hn)
/-- A slice of slices of sets. -/
theorem open_rr {fuel : Nat} {cs : List Value} {x : DataW H × List MemPlace} (h : DataW.trod enc Tryd.prog w 0 (fun _ => true) true fuel 23 cs = some x) (hz : ∀ n ∈ x.1.weights Tryd.prog 23, n ≤ reachBytes) :
    ∃ a l c, cs = [.slice a (l : List (List (BitVec 64))).length c] ∧ RR w a l := by
  rcases open_int_rows Tryd.underlying23 Tryd.underlying22 Tryd.underlying40 (by kernel_rfl) (by kernel_rfl) h with ⟨rfl, _⟩ | ⟨a, len, cap, A, L, C, Z, rfl, _, hl, hc, hx, hrow⟩
  · exact ⟨none, [], 0, rfl, by simp, fun k hk => absurd hk (by simp)⟩
  · rw [hx] at hz
    have hr := reach_le
    have hb : Tryd.prog.bytesOf 22 = 24 := by kernel_rfl
    have hb2 : Tryd.prog.bytesOf 40 = 8 := by kernel_rfl
    have hlen : len ≤ 140737488355328 := by
      have := hz ((len + (cap - len)) * 24) (by simp [DataW.weights, Tryd.underlying23, hb])
      omega
    have hrl : ∀ r, r < len → A r ≠ none → L r ≤ 140737488355328 := by
      intro r hr' hA
      obtain ⟨a', ha'⟩ := Option.ne_none_iff_exists'.1 hA
      have h1 := (hrow r (by omega))
      have hzr := h1.2.2.2.1
      have := hz (((Z r).take (L r)).length * 8 + ((Z r).drop (L r)).length * 8) (by
        simp only [DataW.weights, Tryd.underlying23, List.mem_cons, List.mem_append]
        refine .inr (.inl (mem_weightsAll (d := intRow .u64 (A r) (L r) (Z r)) (List.mem_map.2 ⟨r, by simpa using hr', rfl⟩) ?_))
        rw [ha']
        simp [intRow, DataW.weights, Tryd.underlying22, hb2, lits, Nat.add_mul])
      have h2 := h1.2.1
      simp at this
      omega
    refine ⟨some a, (List.range len).map fun r => ((Z r).take (L r)).map (BitVec.ofInt 64), cap, by simp, ⟨by simpa using hlen, fun k hk => ?_⟩⟩
    have hk' : k < len := by simpa using hk
    obtain ⟨h1, h2, h3, h4, h5, h6, h7⟩ := hrow k (by omega)
    have h0 := (hrow 0 (by omega)).1
    have ha := spot_of (by simpa [Addr.add] using h0)
    rw [ha, add_at] at h1
    have hn : nth ((List.range len).map fun r => ((Z r).take (L r)).map (BitVec.ofInt 64)) k = ((Z k).take (L k)).map (BitVec.ofInt 64) := by
      rw [nth_eq _ _ hk]; simp
    have hll : (((Z k).take (L k)).map (BitVec.ofInt 64)).length = L k := by simp; omega
    refine ⟨a.block, a.off, A k, C k, by rw [← ha], by rw [h1, hn, hll], ?_⟩
    rw [hn]
    cases hA : A k with
    | none =>
      have : L k = 0 := by have := h6 hA; omega
      rw [this]; simp; exact RU.nil _ _
    | some a' =>
      have hlk := hrl k hk' (by rw [hA]; simp)
      refine ⟨by rw [hll]; exact hlk, fun q hq => ?_⟩
      rw [hll] at hq
      obtain ⟨_, hcell⟩ := h7 a' hA
      have hb' := spot_of (by simpa [Addr.add] using hcell 0 (by omega))
      have hcq := hcell q (by omega)
      rw [hb', add_at] at hcq
      refine ⟨a'.block, a'.off, by rw [← hb'], ?_⟩
      rw [hcq]
      have hzq : (Z k).getD q 0 = (Z k)[q]'(by omega) := by simp [List.getD, List.getElem?_eq_getElem (show q < (Z k).length by omega)]
      have hnq : nth (((Z k).take (L k)).map (BitVec.ofInt 64)) q = BitVec.ofInt 64 ((Z k)[q]'(by omega)) := by
        rw [nth_eq _ _ (by rw [hll]; exact hq)]; simp
      rw [hnq, hzq, un_ofInt (h5 _ (List.getElem_mem _))]
/-- A node. -/
theorem open_nd {fuel : Nat} {cs : List Value} {x : DataW H × List MemPlace} (h : DataW.trod enc Tryd.prog w 0 (fun _ => true) true fuel 105 cs = some x) : ∃ n : Nd, cs = ndCells n := by
  have hc6 : Tryd.prog.cellsOf 105 = 6 := by kernel_rfl
  have hc1 : Tryd.prog.cellsOf 3 = 1 := by kernel_rfl
  obtain ⟨xs, n, _, _, hl, hxl, hf⟩ := DataW.trod_struct Tryd.underlying105 h
  rw [hc6] at hl
  have key : ∀ i, i < 6 → ∀ f : Field, f.type = 3 → f.offset = i → DataW.trod enc Tryd.prog w 0 (fun _ => true) true n f.type ((cs.drop f.offset).take (Tryd.prog.cellsOf f.type)) = xs[i]? → i < xs.length → ∃ v : Int, cs[i]? = some (.int .i64 v) := by
    intro i hi f ft fo h hx
    rw [ft, fo, hc1] at h
    have hx2 : xs[i]? = some (xs[i]'hx) := List.getElem?_eq_getElem hx
    rw [hx2] at h
    obtain ⟨v, hv, _, _⟩ := DataW.trod_int Tryd.underlying3 h
    refine ⟨v, ?_⟩
    have := congrArg (fun l => l[0]?) hv
    simpa [List.getElem?_take] using this
  have hx6 : xs.length = 6 := hxl
  obtain ⟨v0, e0⟩ := key 0 (by omega) _ rfl rfl (hf 0 _ rfl) (by omega)
  obtain ⟨v1, e1⟩ := key 1 (by omega) _ rfl rfl (hf 1 _ rfl) (by omega)
  obtain ⟨v2, e2⟩ := key 2 (by omega) _ rfl rfl (hf 2 _ rfl) (by omega)
  obtain ⟨v3, e3⟩ := key 3 (by omega) _ rfl rfl (hf 3 _ rfl) (by omega)
  obtain ⟨v4, e4⟩ := key 4 (by omega) _ rfl rfl (hf 4 _ rfl) (by omega)
  obtain ⟨v5, e5⟩ := key 5 (by omega) _ rfl rfl (hf 5 _ rfl) (by omega)
  refine ⟨⟨v0, v1, v2, v3, v4, v5⟩, List.ext_getElem? fun i => ?_⟩
  rcases Nat.lt_or_ge i 6 with hi | hi
  · rcases (show i = 0 ∨ i = 1 ∨ i = 2 ∨ i = 3 ∨ i = 4 ∨ i = 5 by omega) with rfl | rfl | rfl | rfl | rfl | rfl
    · rw [e0]; rfl
    · rw [e1]; rfl
    · rw [e2]; rfl
    · rw [e3]; rfl
    · rw [e4]; rfl
    · rw [e5]; rfl
  · rw [List.getElem?_eq_none (by omega), List.getElem?_eq_none (by simp [ndCells]; omega)]
/-- A formula. -/
theorem open_rn {fuel : Nat} {cs : List Value} {x : DataW H × List MemPlace} (h : DataW.trod enc Tryd.prog w 0 (fun _ => true) true fuel 26 cs = some x) (hz : ∀ n ∈ x.1.weights Tryd.prog 26, n ≤ reachBytes) :
    ∃ a l c, cs = [.slice a (l : List Nd).length c] ∧ RN w a l := by
  have hc6 : Tryd.prog.cellsOf 105 = 6 := by kernel_rfl
  rcases open_slice Tryd.underlying26 h with ⟨rfl, _⟩ | ⟨a, len, cap, m, n, D, Pl, rfl, _, hl, hc, hm, hx, hel⟩
  · exact ⟨none, [], 0, rfl, RN.nil _ _⟩
  · simp only [if_true] at hm
    rw [hx] at hz
    have hr := reach_le
    have hb : Tryd.prog.bytesOf 105 = 48 := by kernel_rfl
    have hlen : len ≤ 140737488355328 := by
      have := hz ((len + (m - len)) * 48) (by simp [DataW.weights, Tryd.underlying26, hb])
      omega
    have hnd : ∀ i, i < len → ∃ nd : Nd, ∀ j, j < 6 → w.cell? (a.add (i * 6 + j)) = (ndCells nd)[j]? := by
      intro i hi
      obtain ⟨cs', h1, h2⟩ := hel i (by omega)
      rw [hc6] at h1
      obtain ⟨nd, rfl⟩ := open_nd h2
      obtain ⟨_, _, h3⟩ := World.cells?_some h1
      refine ⟨nd, fun j hj => ?_⟩
      have h4 := h3 j hj
      have ha : ∀ (p q : Nat), (a.add p).add q = a.add (p + q) := by
        intro p q
        unfold Addr.add
        by_cases hp : p = 0 <;> by_cases hq : q = 0 <;> simp [hp, hq, Nat.add_assoc]
      rw [ha] at h4
      exact h4
    obtain ⟨g, hg⟩ : ∃ g : Nat → Nd, ∀ i, i < len → ∀ j, j < 6 → w.cell? (a.add (i * 6 + j)) = (ndCells (g i))[j]? := by
      refine ⟨fun i => if h : i < len then Classical.choose (hnd i h) else default, fun i hi => ?_⟩
      simp only [hi, dif_pos]
      exact Classical.choose_spec (hnd i hi)
    refine ⟨some a, (List.range len).map g, cap, by simp, ⟨by simpa using hlen, fun k hk => ?_⟩⟩
    have hk' : k < len := by simpa using hk
    have h0 := hg 0 (by omega) 0 (by omega)
    have ha := spot_of (v := .int .i64 (g 0).op) (by simpa [Addr.add, ndCells] using h0)
    have hn : nth ((List.range len).map g) k = g k := by rw [nth_eq _ _ hk]; simp
    rw [hn]
    have hgk := hg k hk'
    rw [ha] at hgk
    simp only [add_at] at hgk
    refine ⟨a.block, a.off, by rw [← ha], ?_, ?_, ?_, ?_, ?_, ?_⟩
    · exact hgk 0 (by omega)
    · rw [Nat.add_assoc]; exact hgk 1 (by omega)
    · rw [Nat.add_assoc]; exact hgk 2 (by omega)
    · rw [Nat.add_assoc]; exact hgk 3 (by omega)
    · rw [Nat.add_assoc]; exact hgk 4 (by omega)
    · rw [Nat.add_assoc]; exact hgk 5 (by omega)
set_option maxRecDepth 100000 in
/-- A model, as an argument. -/
theorem open_mo {t : Nat} {v : Value} {d : DataW H} {p : List MemPlace} {r : Reach} {b0 : Nat} (ht : t = 25) (hval : Value.okWide Tryd.prog w r b0 t v) (h : DataW.Trod enc Tryd.prog w 0 (fun _ => true) true t v d p) (hz : ∀ n ∈ d.weights Tryd.prog t, n ≤ reachBytes) :
    ∃ M va ra vc rc, v = .agg #[.int .i64 M.worlds, .slice va M.val.length vc, .slice ra M.rel.length rc] ∧ RM w va ra M := by
  subst ht
  have hc0 : Tryd.prog.cellsOf 3 = 1 := by kernel_rfl
  have hc1 : Tryd.prog.cellsOf 22 = 1 := by kernel_rfl
  have hc2 : Tryd.prog.cellsOf 23 = 1 := by kernel_rfl
  have hc3 : Tryd.prog.cellsOf 25 = 3 := by kernel_rfl
  obtain ⟨cs, rfl, hcs⟩ := okWide_struct Tryd.underlying25 hval
  obtain ⟨fuel, h⟩ := h
  obtain ⟨y0, y1, y2, n, hx, hl, u0, u1, u2⟩ := trod_struct3 Tryd.underlying25 h
  simp only [Prod.mk.injEq] at hx
  obtain ⟨rfl, rfl⟩ := hx
  rw [hc3] at hl
  simp only [hc0, hc1, hc2] at u0 u1 u2
  obtain ⟨i, hi, _, _⟩ := DataW.trod_int Tryd.underlying3 u0
  have hzs : ∀ n ∈ DataW.weightsEach Tryd.prog [3, 22, 23] [y0.1, y1.1, y2.1], n ≤ reachBytes := by
    intro n hn
    refine hz n ?_
    simp only [DataW.weights, Tryd.underlying25]
    exact hn
  obtain ⟨va, V, vc, hv, hV⟩ := open_ru u1 (fun n hn => hzs n (DataW.weights_mem_each (j := 1) rfl rfl n hn))
  obtain ⟨ra, R, rc, hr, hR⟩ := open_rr u2 (fun n hn => hzs n (DataW.weights_mem_each (j := 2) rfl rfl n hn))
  refine ⟨⟨i, V, R⟩, va, ra, vc, rc, ?_, ⟨hV, hR⟩⟩
  have hcl : (Value.agg cs).cells.toList = [.int .i64 i, .slice va V.length vc, .slice ra R.length rc] := by
    generalize (Value.agg cs).cells.toList = L at hl hi hv hr
    match L, hl with
    | [a, b, c], _ =>
      simp at hi hv hr
      rw [hi, hv, hr]
  have e2 : cs.toList = [.int .i64 i, .slice va V.length vc, .slice ra R.length rc] := hcl
  have e3 : cs = #[.int .i64 i, .slice va V.length vc, .slice ra R.length rc] := by
    apply Array.ext'
    rw [e2]
  rw [e3]
end
end Wt

/- Walks: math/bits.TrailingZeros64, model.members, model.pull. The first one asks that its table lies as the program's text lays it. -/
namespace Wt
open Go Go.RowKit Go.Maps Go.Proofs Fm

/-- The table that TrailingZeros64 reads. -/
def Tab (w : World) : Prop := TabAt 0 Lib.deBruijn64tab w
theorem Tab.ext {w w' : World} (h : Tab w) (e : Ext w w') : Tab w' := fun j hj => e.cell (h j hj)
set_option maxHeartbeats 1000000 in
theorem tz_core (x k idx : Nat) (w : World) (hx0 : ((x : Int) == 0) = false)
    (key : IntKind.u64.wrap (bits BinOp.and IntKind.u64 (x : Int) (IntKind.u64.wrap (-(x : Int))) * 285870213051353865) / 288230376151711744 = (idx : Int))
    (hi : idx < 64) (hk : k < 64) (hcell : w.cell? ⟨0, idx, none⟩ = some (.int .u8 (k : Int))) :
    Calls Tryd.prog 84 #[.int .u64 (x : Int)] w fun e w' => e = .returned (.int .i64 (k : Int)) ∧ w = w' := by
  go_enter Tryd.func84, Tryd.ntmps84
  go_wp2_with (simp only [key])
  go_ret
  exact ⟨rfl, rfl⟩
/-- The least world of a set. -/
def tz (S : BitVec 64) : Nat := Lib.ctz 64 S.toNat
theorem tz_any (S : BitVec 64) (hS : S ≠ 0#64) (w : World) (hT : Tab w) :
    Calls Tryd.prog 84 #[.int .u64 (un S)] w fun e w' => e = .returned (.int .i64 (tz S : Int)) ∧ w = w' := by
  have hx : S.toNat < 2 ^ 64 := S.isLt
  have hx0 : S.toNat ≠ 0 := fun h => hS (BitVec.eq_of_toNat_eq (by simpa using h))
  obtain ⟨hlow, hk⟩ := Lib.lowest_bit 64 S.toNat hx0 hx
  obtain ⟨hi, htab⟩ := Lib.deBruijn64_at _ hk
  have hcell := hT _ hi
  rw [htab] at hcell
  exact tz_core S.toNat _ _ w (by rw [beq_eq_false_iff_ne]; omega) (tz64_key S.toNat _ hx hx0 hlow) hi hk hcell
theorem tz_spec {S : BitVec 64} (hS : S ≠ 0#64) : tz S < 64 ∧ bt S (tz S) = true ∧ (∀ j, j < tz S → bt S j = false) ∧ ∀ j, bt (S &&& (S - 1#64)) j = (bt S j && decide (j ≠ tz S)) := by
  have hx : S.toNat < 2 ^ 64 := S.isLt
  have hx0 : S.toNat ≠ 0 := fun h => hS (BitVec.eq_of_toNat_eq (by simpa using h))
  obtain ⟨m, hm, hk⟩ := Lib.ctzFrom_spec 64 S.toNat (by omega) hx
  have ht : tz S = Lib.ctzFrom 64 S.toNat := by unfold tz Lib.ctz; rw [if_neg hx0]
  rw [← ht] at hm hk
  generalize tz S = k at *
  have hb : ∀ j, bt S j = (decide (k ≤ j) && (2 * m + 1).testBit (j - k)) := by
    intro j
    show S.getLsbD j = _
    rw [← BitVec.testBit_toNat, hm, Nat.mul_comm, Nat.testBit_mul_two_pow]
  have h1 : (S - 1#64).toNat = 2 ^ k * (2 * m) + (2 ^ k - 1) := by
    have hp : 0 < 2 ^ k := Nat.two_pow_pos k
    have e1 : 2 ^ k * (2 * m + 1) = 2 ^ k * (2 * m) + 2 ^ k := by rw [Nat.mul_add, Nat.mul_one]
    rw [BitVec.toNat_sub]
    simp only [BitVec.toNat_ofNat]
    omega
  have hb1 : ∀ j, bt (S - 1#64) j = if j < k then (2 ^ k - 1).testBit j else (2 * m).testBit (j - k) := by
    intro j
    show (S - 1#64).getLsbD j = _
    rw [← BitVec.testBit_toNat, h1, Nat.testBit_two_pow_mul_add _ (by have := Nat.two_pow_pos k; omega)]
  refine ⟨hk, ?_, fun j hj => ?_, fun j => ?_⟩
  · rw [hb]; simp [Nat.testBit_zero]
  · rw [hb]; simp; omega
  · rw [bt_and, hb1, hb]
    rcases Nat.lt_trichotomy j k with h | h | h
    · simp [show ¬ k ≤ j by omega]
    · subst h; simp [Nat.testBit_zero]
    · obtain ⟨i, hi⟩ : ∃ i, j - k = i + 1 := ⟨j - k - 1, by omega⟩
      rw [if_neg (by omega), hi, Nat.testBit_succ, Nat.testBit_succ]
      have d1 : (2 * m + 1) / 2 = m := by omega
      have d2 : 2 * m / 2 = m := by omega
      rw [d1, d2]
      have d3 : k ≤ j := by omega
      have d4 : j ≠ k := by omega
      simp [d3, d4]
/-- The worlds of a set, in ascending order. -/
def memL (s : BitVec 64) : List Nat := (List.range 64).filter (bt s)
theorem memL_zero : memL 0#64 = [] := by
  unfold memL
  rw [List.filter_eq_nil_iff]
  intro a _
  simp [bt_zero]
theorem memL_step {S : BitVec 64} (hS : S ≠ 0#64) : memL S = tz S :: memL (S &&& (S - 1#64)) := by
  obtain ⟨hk, h1, h2, h3⟩ := tz_spec hS
  generalize tz S = c at *
  have e : List.range 64 = List.range c ++ (c :: List.range' (c + 1) (63 - c)) := by
    rw [List.range_eq_range', List.range_eq_range', ← List.range'_succ]
    have := List.range'_append_1 (s := 0) (m := c) (n := 63 - c + 1)
    rw [Nat.zero_add] at this
    rw [this]
    congr 1; omega
  unfold memL
  rw [e, List.filter_append, List.filter_append]
  have f1 : (List.range c).filter (bt S) = [] := by
    rw [List.filter_eq_nil_iff]; intro a ha; rw [h2 a (List.mem_range.1 ha)]; simp
  have f2 : (List.range c).filter (bt (S &&& (S - 1#64))) = [] := by
    rw [List.filter_eq_nil_iff]; intro a ha; rw [h3, h2 a (List.mem_range.1 ha)]; simp
  rw [f1, f2, List.nil_append, List.nil_append, List.filter_cons_of_pos h1, List.filter_cons_of_neg (by rw [h3]; simp)]
  congr 1
  apply List.filter_congr
  intro a ha
  rw [List.mem_range'_1] at ha
  rw [h3]
  have : a ≠ c := by omega
  simp [this]
theorem mem_memL {s : BitVec 64} {k : Nat} : k ∈ memL s ↔ k < 64 ∧ bt s k = true := by simp [memL]
theorem memL_len (s : BitVec 64) : (memL s).length ≤ 64 := by
  have := List.length_filter_le (bt s) (List.range 64)
  simpa [memL] using this

section
variable {α : Type} {enc : α → Value} {T : Nat} {w0 wr W1 : World} {l : List α} {v v' : Value}
/-- A slice of elements of one cell that the call has made by appending. -/
structure GL (w0 : World) (T : Nat) (enc : α → Value) (l : List α) (v : Value) (wr : World) : Prop where
  e : Ext w0 wr
  own : wr.ownsRow w0.heap.size T 1 v l.length (l.map enc)
theorem GL.ext' {w' : World} (h : GL w0 T enc l v wr) (e : Ext wr w') : GL w0 T enc l v w' :=
  ⟨h.e.trans e, h.own.kept (row := none) ⟨e.os, e.tape, e.output, e.size, fun k hk _ => e.block k hk⟩ (by cases v.ownBlock <;> simp)⟩
theorem GL.push (h : GL w0 T enc l v wr) {x : α} (ho : W1.ownsRow w0.heap.size T 1 v' (l.length + 1) (l.map enc ++ [enc x])) (g : wr.grownBy W1 v.ownBlock) : GL w0 T enc (l ++ [x]) v' W1 := by
  refine ⟨ext_of_grown h.e g (fun b hb => (h.own.lt b hb).1), ?_⟩
  rw [List.map_append, List.length_append]
  exact ho
end
theorem int_info : (Tryd.prog.info? 3).map (fun i => (i.zero, i.size, i.bytes)) = some (some (.int .i64 0), 1, 8) := by kernel_rfl
def iv (n : Int) : Value := .int .i64 n
def natI (l : List Nat) : List Int := l.map fun n : Nat => (n : Int)
theorem nth_natI {l : List Nat} {k : Nat} (h : k < l.length) : nth (natI l) k = ((nth l k : Nat) : Int) := by
  rw [nth_eq _ _ (by simpa [natI] using h), nth_eq _ _ h]; simp [natI]
theorem RI_of_own {wr : World} {B : Nat} {l : List Int} {v : Value} (h : wr.ownsRow B 3 1 v l.length (l.map iv)) (hl : l.length ≤ 140737488355328) : ∃ a c, v = .slice a l.length c ∧ RI wr a l := by
  rcases h.2 with ⟨rfl, h0⟩ | ⟨g, cap, cur, rfl, hb, hg, hnc, hcm, hcs, htake⟩
  · have : l = [] := List.eq_nil_of_length_eq_zero h0
    subst this
    exact ⟨none, 0, rfl, RI.nil _ _⟩
  · refine ⟨some ⟨g, 0, none⟩, cap, rfl, hl, fun k hk => ⟨g, 0, rfl, ?_⟩⟩
    rw [cell_of_row wr g _ cur _ (0, 0) hg, Nat.zero_add]
    have h1 : (l.map iv)[k]? = some (iv (nth l k)) := by rw [List.getElem?_map, nth_eq l k hk]; simp [hk]
    rw [← htake, List.getElem?_take, if_pos (by omega)] at h1
    simpa [iv] using h1
/-- Two worlds agree from a block on. -/
def Agree (B : Nat) (w' w'' : World) : Prop := ∀ k, B ≤ k → k < w'.heap.size → w''.heap[k]? = w'.heap[k]?
theorem Agree.mono {B B' : Nat} {w' w'' : World} (h : Agree B w' w'') (hb : B ≤ B') : Agree B' w' w'' := fun k hk hl => h k (by omega) hl
theorem own_agree {w w'' : World} {B T sz n : Nat} {v : Value} {xs : List Value} (h : w.ownsRow B T sz v n xs) (ha : Agree B w w'') : w''.ownsRow B T sz v n xs := by
  refine ⟨h.1, ?_⟩
  rcases h.2 with h0 | ⟨g, cap, cur, e, hb, hg, hr⟩
  · exact .inl h0
  · exact .inr ⟨g, cap, cur, e, hb, by rw [ha g hb (Array.getElem?_eq_some_iff.1 hg).1]; exact hg, hr⟩
/-- A list of numbers that the call has made: it reads so in every world that agrees from the call's first block on. -/
def RetI (l : List Int) (e : Ending) (w w' : World) : Prop := ∃ a c, e = .returned (.slice a l.length c) ∧ (∀ w'', Agree w.heap.size w' w'' → RI w'' a l) ∧ Ext w w'
/-- The rounds of members. -/
structure MemAt (w : World) (s S : BitVec 64) (L : List Nat) (v : Value) (wr : World) : Prop where
  eq : memL s = L ++ memL S
  own : GL w 3 iv (natI L) v wr
def MemE (w : World) (s : BitVec 64) (sv v : Value) (wr : World) : Prop := ∃ S L, sv = .int .u64 (un S) ∧ MemAt w s S L v wr
set_option maxRecDepth 20000 in
set_option maxHeartbeats 2000000 in
theorem members_any (s : BitVec 64) (w : World) (hT : Tab w) :
    Calls Tryd.prog 91 #[.int .u64 (un s)] w fun e w' => RetI (natI (memL s)) e w w' := by
  have HT := Lib.hid hT
  clear hT
  obtain ⟨i0, hi1, hz0, hz1, hz2⟩ := info_parts int_info
  go_enter Tryd.func91, Tryd.ntmps91
  go_wp2
  go_loopw [0, 3] (fun sv v wr => MemE w s sv v wr) (fun sv _ _ => bvOf sv)
  case atStart => exact ⟨s, [], rfl, by simp, Ext.refl _, World.ownsRow_nil _ _ _ _⟩
  case round =>
    obtain ⟨S, L, rfl, hM⟩ := hrel
    have HM := Lib.hid hM
    by_cases hS : S = 0#64
    · have h2 : natI L = natI (memL s) := by rw [hM.eq, hS, memL_zero, List.append_nil]
      have hlen := memL_len s
      have hlen2 : (natI L).length ≤ 140737488355328 := by rw [h2]; simp [natI]; omega
      obtain ⟨a, c, hv, -⟩ := RI_of_own hM.own.own hlen2
      have hu : ∀ w'', Agree w.heap.size wr w'' → RI w'' a (natI L) := fun w'' ha => by
        obtain ⟨a', c', hv', hu'⟩ := RI_of_own (own_agree hM.own.own ha) hlen2
        rw [hv] at hv'
        simp only [Value.slice.injEq] at hv'
        obtain ⟨rfl, -, -⟩ := hv'
        exact hu'
      have hq : (S != 0#64) = false := by simp [hS]
      have HU := Lib.hid hu
      have HV := Lib.hid hv
      have H2 := Lib.hid h2
      clear hM hu hv hS h2 hlen hlen2
      go_wp2
      go_ret
      exact ⟨a, c, by rw [HV.out, H2.out]; rfl, by rw [← H2.out]; exact HU.out, HM.out.own.e⟩
    · have hq : (S != 0#64) = true := by simp [hS]
      have hst := memL_step hS
      have hlt : (S &&& (S - 1#64)).toNat < S.toNat := by
        refine sub_toNat_lt (fun k hk h => ?_) (fun e => ?_)
        · rw [bt_and, Bool.and_eq_true] at h; exact h.1
        · have h3 := (tz_spec hS).2.2.2 (tz S)
          rw [e, (tz_spec hS).2.1] at h3; simp at h3
      have hL : L.length ≤ 64 := by
        have h3 := memL_len s
        rw [hM.eq, List.length_append] at h3; omega
      have hNX : memL s = (L ++ [tz S]) ++ memL (S &&& (S - 1#64)) := by rw [hM.eq, hst]; simp
      have HNX := Lib.hid hNX
      have HLT := Lib.hid hlt
      have hll : (natI L).length = L.length := by simp [natI]
      have HO : Hid (∀ o, (wr.alloc o).ownsRow w.heap.size 3 1 u3 (natI L).length ((natI L).map iv)) := fun o => (HM.out.own.ext' ((Ext.refl wr).alloc o)).own
      have HPA : Hid (∀ o, GL w 3 iv (natI L) u3 (wr.alloc o)) := fun o => HM.out.own.ext' ((Ext.refl wr).alloc o)
      have HONE : Hid (∀ u ∈ [Value.int .i64 (tz S : Int)], u.oneCell' = true) := fun u hu => by
        rcases List.mem_singleton.1 hu with rfl
        rfl
      have hsz1 : w.heap.size ≤ wr.heap.size := HM.out.own.e.size
      have HTr : Hid (Tab wr) := HT.out.ext HM.out.own.e
      have HS := Lib.hid hS
      clear hM hst hlt hNX hS
      go_wp2_with (first | (go_at_call 84; refine (tz_any S HS.out _ HTr.out).mono ?_; rintro _ _ ⟨rfl, rfl⟩) | (at_builtin; refine wpList_append_lies _ rfl _ _ 29 rfl w.heap.size 3 i0 _ 1 8 Tryd.underlying29 hi1 hz0 hz1 hz2 rfl (by decide) u3 (natI L).length _ rfl (HO.out _) ⟨wr.heap.size, 0, none⟩ 1 1 [.int .i64 (tz S : Int)] rfl rfl (cell_one_new _ _ _) HONE.out (by decide) (by unfold maxLen; omega) (by omega) (Nat.le_trans hsz1 (by simp)) (wr.heap.size + 1) (by simp) ?_; intro gx cap W1 hown hgrow hat hlt2; have hpush := (HPA.out _).push (x := (tz S : Int)) hown hgrow; have HPU := Lib.hid hpush; clear hpush hown hgrow hat))
      go_roundw
      case rel => exact ⟨S &&& (S - 1#64), L ++ [tz S], rfl, HNX.out, by have := HPU.out; simpa [natI] using this⟩
      case measure => rw [bvOf_un, bvOf_un]; exact HLT.out

/-! model.pull. -/
def pullK (s : BitVec 64) (ws : List Nat) : Nat → BitVec 64
  | 0 => 0#64
  | k + 1 => pullK s ws k ||| ((s >>> nth ws k &&& 1#64) <<< k)
def pullL (s : BitVec 64) (ws : List Nat) : BitVec 64 := pullK s ws ws.length
theorem bt_pullK (s : BitVec 64) (ws : List Nat) {k : Nat} (hk : k < 64) : ∀ m, m ≤ 64 → bt (pullK s ws m) k = (decide (k < m) && bt s (nth ws k))
  | 0, _ => by simp [pullK, bt_zero]
  | m + 1, hm => by
    have ih := bt_pullK s ws hk m (by omega)
    have e : bt ((s >>> nth ws m &&& 1#64) <<< m) k = (decide (k = m) && bt s (nth ws m)) := by
      simp only [bt, BitVec.getLsbD_shiftLeft, BitVec.getLsbD_and, BitVec.getLsbD_ushiftRight, BitVec.getLsbD_one]
      by_cases h : k = m
      · subst h; simp [hk]
      · by_cases h2 : k < m
        · simp [h, h2]
        · have : ¬ (k - m = 0) := by omega
          simp [h, this]
    unfold pullK
    rw [bt_or, ih, e]
    by_cases h : k = m
    · subst h; simp
    · have : (decide (k < m + 1)) = decide (k < m) := by simp; omega
      rw [this]; simp [h]
theorem bt_pullL (s : BitVec 64) (ws : List Nat) (hw : ws.length ≤ 64) (k : Nat) : bt (pullL s ws) k = (decide (k < ws.length) && bt s (nth ws k)) := by
  by_cases hk : k < 64
  · exact bt_pullK s ws hk _ hw
  · have h1 : bt (pullL s ws) k = false := BitVec.getLsbD_of_ge _ _ (by omega)
    rw [h1]; simp; omega
set_option maxHeartbeats 1000000 in
theorem pull_any (s : BitVec 64) (ws : List Nat) (a : Option Addr) (c : Nat) (w : World) (hr : RI w a (natI ws)) :
    Calls Tryd.prog 113 #[.int .u64 (un s), .slice a ws.length c] w fun e w' => e = .returned (.int .u64 (un (pullL s ws))) ∧ w = w' := by
  have hl := hr.len
  have hll : (natI ws).length = ws.length := by simp [natI]
  rw [hll] at hl
  have HR := Lib.hid hr
  clear hr
  go_enter Tryd.func113, Tryd.ntmps113
  go_wp2
  go_loop [5, 10] (fun o i => ∃ k : Nat, k ≤ ws.length ∧ i = .int .i64 (k : Int) ∧ o = .int .u64 (un (pullK s ws k))) (fun _ i => ws.length - (intOf i).toNat)
  case atStart => exact ⟨0, Nat.zero_le _, rfl, rfl⟩
  case round =>
    obtain ⟨k, hk, rfl, rfl⟩ := hrel
    by_cases hlt : k < ws.length
    · obtain ⟨b, off, rfl, hb, hc⟩ := HR.out.get (k := k) (by omega)
      rw [nth_natI hlt] at hc
      go_wp2
      go_round
      case rel => exact ⟨k + 1, hlt, by go_num, rfl⟩
      case measure => simp [intOf]; omega
    · obtain rfl : k = ws.length := by omega
      go_wp2
      go_ret
      exact ⟨rfl, rfl⟩
end Wt

/- What the row's condition on the library's table gives the walks; a slice of numbers among the arguments, opened. -/
namespace Go.Proofs.YtbeaagnahldefaaDoor
open Go.ChangeShapes Go.WideShapes Go.ChangeAt Go.RowKit

theorem gTab : Tryd.prog.globalNamed "math/bits.deBruijn64tab" = some 0 := by kernel_rfl
theorem tTab : (Tryd.prog.globals[0]?).map (·.type) = some 142 := by kernel_rfl
theorem tabD : (Rows.laid_math_bits_deBruijn64tab : DataW Unit) = .agg (Lib.deBruijn64tab.map fun n : Nat => .lit (.int .u8 (n : Int))) := by
  unfold Rows.laid_math_bits_deBruijn64tab Lib.deBruijn64tab
  rfl
set_option maxRecDepth 100000 in
theorem tab_of {W : World} {fuel : Nat} {cs : List Value} {q : List MemPlace} {d : DataW Unit} {encU : TypeId × Value → Unit} {base : Nat} {sp : Nat → Bool} {held : Bool} (hd : d = .agg (Lib.deBruijn64tab.map fun n : Nat => .lit (.int .u8 (n : Int))))
    (h : DataW.trod encU Tryd.prog W base sp held fuel 142 cs = some (d, q)) : ∀ j, j < Lib.deBruijn64tab.length → cs[j]? = some (.int .u8 ((Lib.deBruijn64tab.getD j 0 : Nat) : Int)) := by
  intro j hj
  obtain ⟨xs, m1, rfl, hx1, hlen, hn, hel⟩ := DataW.trod_array Tryd.underlying142 h
  have c5 : Tryd.prog.cellsOf 5 = 1 := by kernel_rfl
  have hl64 : Lib.deBruijn64tab.length = 64 := by decide
  have hj64 : j < 64 := by omega
  have h0 := hel j (by omega)
  have hxj : j < xs.length := by omega
  rw [List.getElem?_eq_getElem hxj, c5, Nat.mul_one] at h0
  simp only [Prod.mk.injEq] at hx1
  obtain ⟨hx1, _⟩ := hx1
  rw [hd] at hx1
  simp only [DataW.agg.injEq] at hx1
  have e1 : (xs[j]).1 = .lit (.int .u8 ((Lib.deBruijn64tab.getD j 0 : Nat) : Int)) := by
    have e2 : (xs.map (·.1))[j]? = (Lib.deBruijn64tab.map fun n : Nat => (DataW.lit (.int .u8 (n : Int)) : DataW Unit))[j]? := by rw [hx1]
    rw [List.getElem?_map, List.getElem?_map, List.getElem?_eq_getElem hxj, List.getElem?_eq_getElem hj] at e2
    simp only [Option.map_some, Option.some.injEq] at e2
    rw [e2, List.getD_eq_getElem?_getD, List.getElem?_eq_getElem hj]
    rfl
  obtain ⟨k, k1, k2, _⟩ := DataW.trod_int Tryd.underlying5 h0
  rw [k2] at e1
  simp only [DataW.lit.injEq, Lit.int.injEq, true_and] at e1
  subst e1
  have k3 := congrArg (fun l => l[0]?) k1
  simp only [List.getElem?_take, List.getElem?_drop] at k3
  simpa using k3
theorem of_laid {W : World} (h : laidMetH Tryd.prog [("math/bits.deBruijn64tab", Rows.laid_math_bits_deBruijn64tab)] W) : Wt.Tab W := by
  rw [MakeChecks.laidMetH_plain _ _ _ (by kernel_rfl)] at h
  obtain ⟨ps, ⟨g0, t0, cs0, f0, p0, q0, hg0, ht0, hv0, hd0, _⟩, _⟩ := h
  obtain rfl := Option.some.inj (gTab.symm.trans hg0)
  obtain rfl := Option.some.inj (tTab.symm.trans ht0)
  intro j hj
  have hc := tab_of tabD hd0 j hj
  have := World.var?_cell hg0 hv0 j
  rw [← Array.getElem?_toList, hc] at this
  simpa using this
end Go.Proofs.YtbeaagnahldefaaDoor
namespace Wt
open Go Go.ChangeShapes Go.WideShapes Go.ChangeAt Go.RowKit Go.Deep Go.Proofs Fm
section
variable {H : Type} {enc : TypeId × Value → H} {w : World}
/-- A slice of numbers. -/
theorem open_ri {fuel : Nat} {cs : List Value} {x : DataW H × List MemPlace} (h : DataW.trod enc Tryd.prog w 0 (fun _ => true) true fuel 29 cs = some x) (hz : ∀ n ∈ x.1.weights Tryd.prog 29, n ≤ reachBytes) :
    ∃ a l c, cs = [.slice a (l : List Int).length c] ∧ RI w a l := by
  rcases open_ints Tryd.underlying29 Tryd.underlying3 (by kernel_rfl) h with ⟨rfl, _⟩ | ⟨a, len, cap, zs, rfl, _, hl, hc, hzl, hx, hcell, hwf⟩
  · exact ⟨none, [], 0, rfl, RI.nil _ _⟩
  · simp only [if_true] at hzl
    rw [hx] at hz
    have hw := hz ((lits (H := H) .i64 (zs.take len)).length * Tryd.prog.bytesOf 3 + (lits (H := H) .i64 (zs.drop len)).length * Tryd.prog.bytesOf 3) (by
      simp [DataW.weights, Tryd.underlying29, Nat.add_mul])
    have hb : Tryd.prog.bytesOf 3 = 8 := by kernel_rfl
    rw [hb] at hw
    have hll : (lits (H := H) .i64 (zs.take len)).length = len := by simp [lits]; omega
    rw [hll] at hw
    have hr := reach_le
    refine ⟨some a, zs.take len, cap, by simp; omega, ⟨by simp; omega, fun k hk => ?_⟩⟩
    have hk' : k < len := by simp at hk; omega
    have h0 := hcell 0 (by omega)
    have ha := spot_of (by simpa [Addr.add] using h0)
    have hck := hcell k (by omega)
    rw [ha, add_at] at hck
    refine ⟨a.block, a.off, by rw [← ha], ?_⟩
    rw [hck]
    have hzk : zs.getD k 0 = zs[k]'(by omega) := by simp [List.getD, List.getElem?_eq_getElem (show k < zs.length by omega)]
    have hn : nth (zs.take len) k = zs[k]'(by omega) := by
      rw [nth_eq _ _ hk]; simp
    rw [hn, hzk]
end
end Wt
