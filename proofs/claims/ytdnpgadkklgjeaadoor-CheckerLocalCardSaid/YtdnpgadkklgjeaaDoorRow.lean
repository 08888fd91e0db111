/- The arguments of a statement, opened: a model, a formula. -/
import Derived.Test.YtdnpgadkklgjeaaDoorLawC
import Derived.ProofKit
import Derived.Deep.Matrix
import Derived.Deep.Strs
import Derived.Deep.Slices
import Derived.SizedLaws
namespace Wt
open Go Go.ChangeShapes Go.WideShapes Go.ChangeAt Go.RowKit Go.Deep Go.Proofs Fm

theorem spot_of {w : World} {a : Addr} {v : Value} (h : w.cell? a = some v) : a = ⟨a.block, a.off, none⟩ := by
  obtain ⟨b, o, s⟩ := a
  cases s with
  | none => rfl
  | some n =>
    exfalso
    simp only [World.cell?] at h
    split at h <;> simp at h
theorem add_at (b o k : Nat) : (⟨b, o, none⟩ : Addr).add k = ⟨b, o + k, none⟩ := by
  unfold Addr.add
  split
  · rename_i h; subst h; rfl
  · rfl
theorem un_ofInt {n : Int} (h : (Lit.int .u64 n).wf = true) : un (BitVec.ofInt 64 n) = n := by
  simp only [Lit.wf, Bool.and_eq_true, decide_eq_true_eq] at h
  have h1 : (0 : Int) ≤ n := h.1
  have h2 : n ≤ 18446744073709551615 := h.2
  unfold un
  rw [BitVec.toNat_ofInt]
  omega
theorem reach_le : reachBytes ≤ 140737488355328 := by decide
section
variable {H : Type} {enc : TypeId × Value → H} {w : World}
/-- A slice of sets. -/
theorem open_ru {fuel : Nat} {cs : List Value} {x : DataW H × List MemPlace} (h : DataW.trod enc Tryd.prog w 0 (fun _ => true) true fuel 22 cs = some x) (hz : ∀ n ∈ x.1.weights Tryd.prog 22, n ≤ reachBytes) :
    ∃ a l c, cs = [.slice a (l : List (BitVec 64)).length c] ∧ RU w a l := by
  rcases open_ints Tryd.underlying22 Tryd.underlying31 (by kernel_rfl) h with ⟨rfl, _⟩ | ⟨a, len, cap, zs, rfl, _, hl, hc, hzl, hx, hcell, hwf⟩
  · exact ⟨none, [], 0, rfl, RU.nil _ _⟩
  · simp only [if_true] at hzl
    rw [hx] at hz
    have hw := hz ((lits (H := H) .u64 (zs.take len)).length * Tryd.prog.bytesOf 31 + (lits (H := H) .u64 (zs.drop len)).length * Tryd.prog.bytesOf 31) (by
      simp [DataW.weights, Tryd.underlying22, Nat.add_mul])
    have hb : Tryd.prog.bytesOf 31 = 8 := by kernel_rfl
    rw [hb] at hw
    have hll : (lits (H := H) .u64 (zs.take len)).length = len := by simp [lits]; omega
    rw [hll] at hw
    have hr := reach_le
    refine ⟨some a, (zs.take len).map (BitVec.ofInt 64), cap, by simp; omega, ⟨by simp; omega, fun k hk => ?_⟩⟩
    have hk' : k < len := by simp at hk; omega
    have h0 := hcell 0 (by omega)
    have ha := spot_of (by simpa [Addr.add] using h0)
    have hck := hcell k (by omega)
    rw [ha, add_at] at hck
    refine ⟨a.block, a.off, by rw [← ha], ?_⟩
    rw [hck]
    have hzk : zs.getD k 0 = zs[k]'(by omega) := by simp [List.getD, List.getElem?_eq_getElem (show k < zs.length by omega)]
    have hn : nth ((zs.take len).map (BitVec.ofInt 64)) k = BitVec.ofInt 64 (zs[k]'(by omega)) := by
      rw [nth_eq _ _ hk]; simp
    rw [hn, hzk, un_ofInt (hwf _ (List.getElem_mem _))]
theorem mem_weightsAll {P : Program} {e : TypeId} {n : Nat} {d : DataW H} : ∀ {l : List (DataW H)}, d ∈ l → n ∈ d.weights P e → n ∈ DataW.weightsAll P e l
  | d0 :: l, hd, hn => by
    simp only [DataW.weightsAll, List.mem_append]
    rcases List.mem_cons.1 hd with rfl | hd
    · exact .inl hn
    · exact .inr (mem_weightsAll hd hn)
/-- A slice of slices of sets. -/
theorem open_rr {fuel : Nat} {cs : List Value} {x : DataW H × List MemPlace} (h : DataW.trod enc Tryd.prog w 0 (fun _ => true) true fuel 23 cs = some x) (hz : ∀ n ∈ x.1.weights Tryd.prog 23, n ≤ reachBytes) :
    ∃ a l c, cs = [.slice a (l : List (List (BitVec 64))).length c] ∧ RR w a l := by
  rcases open_int_rows Tryd.underlying23 Tryd.underlying22 Tryd.underlying31 (by kernel_rfl) (by kernel_rfl) h with ⟨rfl, _⟩ | ⟨a, len, cap, A, L, C, Z, rfl, _, hl, hc, hx, hrow⟩
  · exact ⟨none, [], 0, rfl, by simp, fun k hk => absurd hk (by simp)⟩
  · rw [hx] at hz
    have hr := reach_le
    have hb : Tryd.prog.bytesOf 22 = 24 := by kernel_rfl
    have hb2 : Tryd.prog.bytesOf 31 = 8 := by kernel_rfl
    have hlen : len ≤ 140737488355328 := by
      have := hz ((len + (cap - len)) * 24) (by simp [DataW.weights, Tryd.underlying23, hb])
      omega
    have hrl : ∀ r, r < len → A r ≠ none → L r ≤ 140737488355328 := by
      intro r hr' hA
      obtain ⟨a', ha'⟩ := Option.ne_none_iff_exists'.1 hA
      have h1 := (hrow r (by omega))
      have hzr := h1.2.2.2.1
      have := hz (((Z r).take (L r)).length * 8 + ((Z r).drop (L r)).length * 8) (by
        simp only [DataW.weights, Tryd.underlying23, List.mem_cons, List.mem_append]
        refine .inr (.inl (mem_weightsAll (d := intRow .u64 (A r) (L r) (Z r)) (List.mem_map.2 ⟨r, by simpa using hr', rfl⟩) ?_))
        rw [ha']
        simp [intRow, DataW.weights, Tryd.underlying22, hb2, lits, Nat.add_mul])
      have h2 := h1.2.1
      simp at this
      omega
    refine ⟨some a, (List.range len).map fun r => ((Z r).take (L r)).map (BitVec.ofInt 64), cap, by simp, ⟨by simpa using hlen, fun k hk => ?_⟩⟩
    have hk' : k < len := by simpa using hk
    obtain ⟨h1, h2, h3, h4, h5, h6, h7⟩ := hrow k (by omega)
    have h0 := (hrow 0 (by omega)).1
    have ha := spot_of (by simpa [Addr.add] using h0)
    rw [ha, add_at] at h1
    have hn : nth ((List.range len).map fun r => ((Z r).take (L r)).map (BitVec.ofInt 64)) k = ((Z k).take (L k)).map (BitVec.ofInt 64) := by
      rw [nth_eq _ _ hk]; simp
    have hll : (((Z k).take (L k)).map (BitVec.ofInt 64)).length = L k := by simp; omega
    refine ⟨a.block, a.off, A k, C k, by rw [← ha], by rw [h1, hn, hll], ?_⟩
    rw [hn]
    cases hA : A k with
    | none =>
      have : L k = 0 := by have := h6 hA; omega
      rw [this]; simp; exact RU.nil _ _
    | some a' =>
      have hlk := hrl k hk' (by rw [hA]; simp)
      refine ⟨by rw [hll]; exact hlk, fun q hq => ?_⟩
      rw [hll] at hq
      obtain ⟨_, hcell⟩ := h7 a' hA
      have hb' := spot_of (by simpa [Addr.add] using hcell 0 (by omega))
      have hcq := hcell q (by omega)
      rw [hb', add_at] at hcq
      refine ⟨a'.block, a'.off, by rw [← hb'], ?_⟩
      rw [hcq]
      have hzq : (Z k).getD q 0 = (Z k)[q]'(by omega) := by simp [List.getD, List.getElem?_eq_getElem (show q < (Z k).length by omega)]
      have hnq : nth (((Z k).take (L k)).map (BitVec.ofInt 64)) q = BitVec.ofInt 64 ((Z k)[q]'(by omega)) := by
        rw [nth_eq _ _ (by rw [hll]; exact hq)]; simp
      rw [hnq, hzq, un_ofInt (h5 _ (List.getElem_mem _))]
/-- A node. -/
theorem open_nd {fuel : Nat} {cs : List Value} {x : DataW H × List MemPlace} (h : DataW.trod enc Tryd.prog w 0 (fun _ => true) true fuel 62 cs = some x) : ∃ n : Nd, cs = ndCells n := by
  have hc6 : Tryd.prog.cellsOf 62 = 6 := by kernel_rfl
  have hc1 : Tryd.prog.cellsOf 3 = 1 := by kernel_rfl
  obtain ⟨xs, n, _, _, hl, hxl, hf⟩ := DataW.trod_struct Tryd.underlying62 h
  rw [hc6] at hl
  have key : ∀ i, i < 6 → ∀ f : Field, f.type = 3 → f.offset = i → DataW.trod enc Tryd.prog w 0 (fun _ => true) true n f.type ((cs.drop f.offset).take (Tryd.prog.cellsOf f.type)) = xs[i]? → i < xs.length → ∃ v : Int, cs[i]? = some (.int .i64 v) := by
    intro i hi f ft fo h hx
    rw [ft, fo, hc1] at h
    have hx2 : xs[i]? = some (xs[i]'hx) := List.getElem?_eq_getElem hx
    rw [hx2] at h
    obtain ⟨v, hv, _, _⟩ := DataW.trod_int Tryd.underlying3 h
    refine ⟨v, ?_⟩
    have := congrArg (fun l => l[0]?) hv
    simpa [List.getElem?_take] using this
  have hx6 : xs.length = 6 := hxl
  obtain ⟨v0, e0⟩ := key 0 (by omega) _ rfl rfl (hf 0 _ rfl) (by omega)
  obtain ⟨v1, e1⟩ := key 1 (by omega) _ rfl rfl (hf 1 _ rfl) (by omega)
  obtain ⟨v2, e2⟩ := key 2 (by omega) _ rfl rfl (hf 2 _ rfl) (by omega)
  obtain ⟨v3, e3⟩ := key 3 (by omega) _ rfl rfl (hf 3 _ rfl) (by omega)
  obtain ⟨v4, e4⟩ := key 4 (by omega) _ rfl rfl (hf 4 _ rfl) (by omega)
  obtain ⟨v5, e5⟩ := key 5 (by omega) _ rfl rfl (hf 5 _ rfl) (by omega)
  refine ⟨⟨v0, v1, v2, v3, v4, v5⟩, List.ext_getElem? fun i => ?_⟩
  rcases Nat.lt_or_ge i 6 with hi | hi
  · rcases (show i = 0 ∨ i = 1 ∨ i = 2 ∨ i = 3 ∨ i = 4 ∨ i = 5 by omega) with rfl | rfl | rfl | rfl | rfl | rfl
    · rw [e0]; rfl
    · rw [e1]; rfl
    · rw [e2]; rfl
    · rw [e3]; rfl
    · rw [e4]; rfl
    · rw [e5]; rfl
  · rw [List.getElem?_eq_none (by omega), List.getElem?_eq_none (by simp [ndCells]; omega)]
/-- A formula. -/
theorem open_rn {fuel : Nat} {cs : List Value} {x : DataW H × List MemPlace} (h : DataW.trod enc Tryd.prog w 0 (fun _ => true) true fuel 26 cs = some x) (hz : ∀ n ∈ x.1.weights Tryd.prog 26, n ≤ reachBytes) :
    ∃ a l c, cs = [.slice a (l : List Nd).length c] ∧ RN w a l := by
  have hc6 : Tryd.prog.cellsOf 62 = 6 := by kernel_rfl
  rcases open_slice Tryd.underlying26 h with ⟨rfl, _⟩ | ⟨a, len, cap, m, n, D, Pl, rfl, _, hl, hc, hm, hx, hel⟩
  · exact ⟨none, [], 0, rfl, RN.nil _ _⟩
  · simp only [if_true] at hm
    rw [hx] at hz
    have hr := reach_le
    have hb : Tryd.prog.bytesOf 62 = 48 := by kernel_rfl
    have hlen : len ≤ 140737488355328 := by
      have := hz ((len + (m - len)) * 48) (by simp [DataW.weights, Tryd.underlying26, hb])
      omega
    have hnd : ∀ i, i < len → ∃ nd : Nd, ∀ j, j < 6 → w.cell? (a.add (i * 6 + j)) = (ndCells nd)[j]? := by
      intro i hi
      obtain ⟨cs', h1, h2⟩ := hel i (by omega)
      rw [hc6] at h1
      obtain ⟨nd, rfl⟩ := open_nd h2
      obtain ⟨_, _, h3⟩ := World.cells?_some h1
      refine ⟨nd, fun j hj => ?_⟩
      have h4 := h3 j hj
      have ha : ∀ (p q : Nat), (a.add p).add q = a.add (p + q) := by
        intro p q
        unfold Addr.add
        by_cases hp : p = 0 <;> by_cases hq : q = 0 <;> simp [hp, hq, Nat.add_assoc]
      rw [ha] at h4
      exact h4
    obtain ⟨g, hg⟩ : ∃ g : Nat → Nd, ∀ i, i < len → ∀ j, j < 6 → w.cell? (a.add (i * 6 + j)) = (ndCells (g i))[j]? := by
      refine ⟨fun i => if h : i < len then Classical.choose (hnd i h) else default, fun i hi => ?_⟩
      simp only [hi, dif_pos]
      exact Classical.choose_spec (hnd i hi)
    refine ⟨some a, (List.range len).map g, cap, by simp, ⟨by simpa using hlen, fun k hk => ?_⟩⟩
    have hk' : k < len := by simpa using hk
    have h0 := hg 0 (by omega) 0 (by omega)
    have ha := spot_of (v := .int .i64 (g 0).op) (by simpa [Addr.add, ndCells] using h0)
    have hn : nth ((List.range len).map g) k = g k := by rw [nth_eq _ _ hk]; simp
    rw [hn]
    have hgk := hg k hk'
    rw [ha] at hgk
    simp only [add_at] at hgk
    refine ⟨a.block, a.off, by rw [← ha], ?_, ?_, ?_, ?_, ?_, ?_⟩
    · exact hgk 0 (by omega)
    · rw [Nat.add_assoc]; exact hgk 1 (by omega)
    · rw [Nat.add_assoc]; exact hgk 2 (by omega)
    · rw [Nat.add_assoc]; exact hgk 3 (by omega)
    · rw [Nat.add_assoc]; exact hgk 4 (by omega)
    · rw [Nat.add_assoc]; exact hgk 5 (by omega)
set_option maxRecDepth 100000 in
/-- A model, as an argument. -/
theorem open_mo {t : Nat} {v : Value} {d : DataW H} {p : List MemPlace} {r : Reach} {b0 : Nat} (ht : t = 25) (hval : Value.okWide Tryd.prog w r b0 t v) (h : DataW.Trod enc Tryd.prog w 0 (fun _ => true) true t v d p) (hz : ∀ n ∈ d.weights Tryd.prog t, n ≤ reachBytes) :
    ∃ M va ra vc rc, v = .agg #[.int .i64 M.worlds, .slice va M.val.length vc, .slice ra M.rel.length rc] ∧ RM w va ra M := by
  subst ht
  have hc0 : Tryd.prog.cellsOf 3 = 1 := by kernel_rfl
  have hc1 : Tryd.prog.cellsOf 22 = 1 := by kernel_rfl
  have hc2 : Tryd.prog.cellsOf 23 = 1 := by kernel_rfl
  have hc3 : Tryd.prog.cellsOf 25 = 3 := by kernel_rfl
  obtain ⟨cs, rfl, hcs⟩ := okWide_struct Tryd.underlying25 hval
  obtain ⟨fuel, h⟩ := h
  obtain ⟨y0, y1, y2, n, hx, hl, u0, u1, u2⟩ := trod_struct3 Tryd.underlying25 h
  simp only [Prod.mk.injEq] at hx
  obtain ⟨rfl, rfl⟩ := hx
  rw [hc3] at hl
  simp only [hc0, hc1, hc2] at u0 u1 u2
  obtain ⟨i, hi, _, _⟩ := DataW.trod_int Tryd.underlying3 u0
  have hzs : ∀ n ∈ DataW.weightsEach Tryd.prog [3, 22, 23] [y0.1, y1.1, y2.1], n ≤ reachBytes := by
    intro n hn
    refine hz n ?_
    simp only [DataW.weights, Tryd.underlying25]
    exact hn
  obtain ⟨va, V, vc, hv, hV⟩ := open_ru u1 (fun n hn => hzs n (DataW.weights_mem_each (j := 1) rfl rfl n hn))
  obtain ⟨ra, R, rc, hr, hR⟩ := open_rr u2 (fun n hn => hzs n (DataW.weights_mem_each (j := 2) rfl rfl n hn))
  refine ⟨⟨i, V, R⟩, va, ra, vc, rc, ?_, ⟨hV, hR⟩⟩
  have hcl : (Value.agg cs).cells.toList = [.int .i64 i, .slice va V.length vc, .slice ra R.length rc] := by
    generalize (Value.agg cs).cells.toList = L at hl hi hv hr
    match L, hl with
    | [a, b, c], _ =>
      simp at hi hv hr
      rw [hi, hv, hr]
  have e2 : cs.toList = [.int .i64 i, .slice va V.length vc, .slice ra R.length rc] := hcl
  have e3 : cs = #[.int .i64 i, .slice va V.length vc, .slice ra R.length rc] := by
    apply Array.ext'
    rw [e2]
  rw [e3]
end
end Wt
