/- Walks: spoken, Spoken, Traces of package secrets (printed by gen_sei.py). -/
import Derived.Test.YtflnfcmbalhpnaaDoorM4Bn
import Derived.Test.YtflnfcmbalhpnaaDoorM4Bo
import Derived.Test.YtflnfcmbalhpnaaDoorM4Bc
import Derived.ProofKit
import Derived.Deep.Matrix
import Derived.Deep.Strs
import Derived.Deep.Slices
import Derived.SizedLaws
import Derived.Test.YtflnfcmbalhpnaaDoorRows
import Derived.Test.YtflnfcmbalhpnaaDoorM4Aj
import Derived.LaidMore
import Derived.OpenShut
namespace Wt
open Go Go.RowKit Go.Maps Go.Proofs Fm

/-- A number shifted to the left. -/
def slN (c n : Nat) : Int := ((c * 2 ^ n : Nat) : Int)
theorem shift_shl_nat (yk : IntKind) (c n : Nat) (h : c * 2 ^ n < 4611686018427387904) (h63 : n < 63) : Op.shift .shl .i64 (c : Int) yk (n : Int) = pure (.int .i64 (slN c n)) := by
  have h1 : ¬ ((n : Int) < 0) := by omega
  have hb : IntKind.i64.bits = 64 := rfl
  simp only [Op.shift, h1, if_false, Int.toNat_natCast, hb]
  have e : (c : Int) * (2 : Int) ^ min n 64 = ((c * 2 ^ n : Nat) : Int) := by rw [Nat.min_eq_left (by omega)]; simp
  rw [e]
  unfold slN
  have e2 : IntKind.i64.wrap ((c * 2 ^ n : Nat) : Int) = ((c * 2 ^ n : Nat) : Int) := IntWalk.i64_in _ (by omega)
  rw [e2]
attribute [go_sem ↓] shift_shl_nat
/-- The pointed model now, in its variable. -/
structure SpS (b : Nat) (w : World) (P : Mo × Int) (wr : World) : Prop where
  lo : w.heap.size + 1 ≤ b
  e : Ext w wr
  box : ∃ va ra vc rc, PAt wr b (.int .i64 P.1.worlds) (.slice va P.1.val.length vc) (.slice ra P.1.rel.length rc) (.int .i64 P.2) ∧ ∀ w'', AgreeX (w.heap.size + 1) b wr w'' → RM w'' va ra P.1
  res : PAt wr w.heap.size (.int .i64 0) (.slice none 0 0) (.slice none 0 0) (.int .i64 0)
/-- The state in which somebody, or nobody, has paid. -/
theorem st_or {n p c : Nat} (hn : n ≤ 3) (h1 : 1 ≤ p) (hp : p ≤ n) (hc : c < 2 ^ n) : bits .or .i64 (slN c n) (p2 (p - 1)) = ((dinSt n p c : Nat) : Int) := by
  have h8 : 2 ^ n ≤ 8 := by rcases (show n = 0 ∨ n = 1 ∨ n = 2 ∨ n = 3 by omega) with rfl | rfl | rfl | rfl <;> decide
  have hlt : 2 ^ (p - 1) < 2 ^ n := Nat.pow_lt_pow_right (by omega) (by omega)
  have hcn : c * 2 ^ n < 64 := by
    have := Nat.mul_le_mul (show c ≤ 7 by omega) h8
    omega
  unfold slN p2 dinSt
  rw [or_nat _ _ (by omega) (by omega), if_neg (by omega), Nat.mul_comm c, Nat.two_pow_add_eq_or_of_lt hlt]
theorem st_zero (n c : Nat) : slN c n = ((dinSt n 0 c : Nat) : Int) := by simp [slN, dinSt]
end Wt

/- Walks: wittinglaw44.awake, wittingtop.cAwake22 (printed by gen_sej.py). -/
namespace Wt
open Go Go.RowKit Go.Maps Go.Proofs Fm

theorem c33 : (countedW 3 3).1.worlds = 3 ∧ (countedW 3 3).2 = 0 := by rw [cnt_eq (by decide) (by decide)]; decide +kernel
theorem s300 : (spokeTo 3 1 0 3).1.worlds = 6 := by rw [sp_eq (by decide) (by decide) (by decide)]; decide +kernel
/-- A model of so many worlds, at a world. -/
def RetG3 (W x : Int) (e : Ending) (w w' : World) : Prop := ∃ va ra vl rl vc rc, e = .returned (.tuple #[.agg #[.int .i64 W, .slice va vl vc, .slice ra rl rc], .int .i64 x, .int .i64 0]) ∧ Ext w w'
theorem RetG.g3 {p : Mo × Int} {e : Ending} {w w' : World} {W : Int} (h : RetG p e w w') (hW : p.1.worlds = W) : RetG3 W p.2 e w w' := by
  obtain ⟨va, ra, vc, rc, h1, _, h2⟩ := h
  rw [hW] at h1
  exact ⟨va, ra, _, _, vc, rc, h1, h2⟩
theorem learns_is (n v g i : Nat) (hn : 2 ≤ n ∧ n ≤ 4) (hv : v < 2 ^ n) (h1 : 1 ≤ g) (h2 : g < 2 ^ n) (hi : i < n) (w : World) (hT : Tab w) :
    Calls Tryd.prog 14 #[.int .i64 (n : Int), .int .i64 (v : Int), .int .i64 (g : Int), .int .i64 (i : Int)] w fun e w' => RetP (.bool (tallyWant n v g i)) 0 e w w' := by
  have h := Learns_any n v (g : Int) (i : Int) hn hv ⟨by omega, by unfold p2; omega⟩ ⟨by omega, by omega⟩ w hT
  rw [tally_law hn hv h1 h2 hi] at h
  exact h
set_option maxRecDepth 20000 in
set_option maxHeartbeats 4000000 in
theorem cAwake22_any (w : World) (hT : Tab w) : Calls Tryd.prog 4 #[] w fun e w' => e = .returned (.bool true) ∧ Ext w w' := by
  have X1 : Hid (∀ W, Tab W → Calls Tryd.prog 14 #[.int .i64 3, .int .i64 7, .int .i64 1, .int .i64 1] W fun e w' => RetP (.bool true) 0 e W w') := Lib.hid fun W h => learns_is 3 7 1 1 (by decide) (by decide) (by decide) (by decide) (by decide) W h
  have X0 : Hid (∀ W, Tab W → Calls Tryd.prog 10 #[.int .i64 3, .int .i64 3] W fun e w' => RetG3 3 0 e W w') := Lib.hid fun W h => (Counted_any 3 3 (by decide) (by decide) W h).mono fun _ _ hr => by
    have h2 := hr.g3 c33.1
    rw [c33.2] at h2
    exact h2
  have HT := Lib.hid hT
  clear hT
  go_enter Tryd.func4, Tryd.ntmps4
  go_wp2_with fail
  refine (X1.out _ HT.out).mono ?_
  rintro _ w1 ⟨rfl, hE1⟩
  dsimp only
  go_wp2_with fail
  refine (X0.out _ (HT.out.ext hE1)).mono ?_
  rintro _ w2 ⟨va, ra, vl, rl, vc, rc, rfl, hE2⟩
  have hA2 : Ext w2 (w2.alloc (.cells #[.int .i64 3, .slice va vl vc, .slice ra rl rc] 28)) := (Ext.refl _).alloc _
  dsimp only
  go_wp2_with fail
  go_ret
  exact ⟨rfl, hE1.trans (hE2.trans hA2)⟩
end Wt

/- The arguments of a statement, opened: a model, a formula. -/
namespace Wt
open Go Go.ChangeShapes Go.WideShapes Go.ChangeAt Go.RowKit Go.Deep Go.Proofs Fm

theorem spot_of {w : World} {a : Addr} {v : Value} (h : w.cell? a = some v) : a = ⟨a.block, a.off, none⟩ := by
  obtain ⟨b, o, s⟩ := a
  cases s with
  | none => rfl
  | some n =>
    exfalso
    simp only [World.cell?] at h
    split at h <;> simp at h
theorem add_at (b o k : Nat) : (⟨b, o, none⟩ : Addr).add k = ⟨b, o + k, none⟩ := by
  unfold Addr.add
  split
  · rename_i h; subst h; rfl
  · rfl
theorem un_ofInt {n : Int} (h : (Lit.int .u64 n).wf = true) : un (BitVec.ofInt 64 n) = n := by
  simp only [Lit.wf, Bool.and_eq_true, decide_eq_true_eq] at h
  have h1 : (0 : Int) ≤ n := h.1
  have h2 : n ≤ 18446744073709551615 := h.2
  unfold un
  rw [BitVec.toNat_ofInt]
  omega
theorem reach_le : reachBytes ≤ 140737488355328 := by decide
section
variable {H : Type} {enc : TypeId × Value → H} {w : World}
/-- A slice of sets. -/
theorem open_ru {fuel : Nat} {cs : List Value} {x : DataW H × List MemPlace} (h : DataW.trod enc Tryd.prog w 0 (fun _ => true) true fuel 25 cs = some x) (hz : ∀ n ∈ x.1.weights Tryd.prog 25, n ≤ reachBytes) :
    ∃ a l c, cs = [.slice a (l : List (BitVec 64)).length c] ∧ RU w a l := by
  rcases open_ints Tryd.underlying25 Tryd.underlying58 (by kernel_rfl) h with ⟨rfl, _⟩ | ⟨a, len, cap, zs, rfl, _, hl, hc, hzl, hx, hcell, hwf⟩
  · exact ⟨none, [], 0, rfl, RU.nil _ _⟩
  · simp only [if_true] at hzl
    rw [hx] at hz
    have hw := hz ((lits (H := H) .u64 (zs.take len)).length * Tryd.prog.bytesOf 58 + (lits (H := H) .u64 (zs.drop len)).length * Tryd.prog.bytesOf 58) (by
      simp [DataW.weights, Tryd.underlying25, Nat.add_mul])
    have hb : Tryd.prog.bytesOf 58 = 8 := by kernel_rfl
    rw [hb] at hw
    have hll : (lits (H := H) .u64 (zs.take len)).length = len := by simp [lits]; omega
    rw [hll] at hw
    have hr := reach_le
    refine ⟨some a, (zs.take len).map (BitVec.ofInt 64), cap, by simp; omega, ⟨by simp; omega, fun k hk => ?_⟩⟩
    have hk' : k < len := by simp at hk; omega
    have h0 := hcell 0 (by omega)
    have ha := spot_of (by simpa [Addr.add] using h0)
    have hck := hcell k (by omega)
    rw [ha, add_at] at hck
    refine ⟨a.block, a.off, by rw [← ha], ?_⟩
    rw [hck]
    have hzk : zs.getD k 0 = zs[k]'(by omega) := by simp [List.getD, List.getElem?_eq_getElem (show k < zs.length by omega)]
    have hn : nth ((zs.take len).map (BitVec.ofInt 64)) k = BitVec.ofInt 64 (zs[k]'(by omega)) := by
      rw [nth_eq _ _ hk]; simp
    rw [hn, hzk, un_ofInt (hwf _ (List.getElem_mem _))]
theorem mem_weightsAll {P : Program} {e : TypeId} {n : Nat} {d : DataW H} : ∀ {l : List (DataW H)}, d ∈ l → n ∈ d.weights P e → n ∈ DataW.weightsAll P e l
  | d0 :: l, hd, hn => by
    simp only [DataW.weightsAll, List.mem_append]
    rcases List.mem_cons.1 hd with rfl | hd
    · exact .inl hn
    · exact .inr (mem_weightsAll hd hn)
/-- A slice of slices of sets. -/
theorem open_rr {fuel : Nat} {cs : List Value} {x : DataW H × List MemPlace} (h : DataW.trod enc Tryd.prog w 0 (fun _ => true) true fuel 26 cs = some x) (hz : ∀ n ∈ x.1.weights Tryd.prog 26, n ≤ reachBytes) :
    ∃ a l c, cs = [.slice a (l : List (List (BitVec 64))).length c] ∧ RR w a l := by
  rcases open_int_rows Tryd.underlying26 Tryd.underlying25 Tryd.underlying58 (by kernel_rfl) (by kernel_rfl) h with ⟨rfl, _⟩ | ⟨a, len, cap, A, L, C, Z, rfl, _, hl, hc, hx, hrow⟩
  · exact ⟨none, [], 0, rfl, by simp, fun k hk => absurd hk (by simp)⟩
  · rw [hx] at hz
    have hr := reach_le
    have hb : Tryd.prog.bytesOf 25 = 24 := by kernel_rfl
    have hb2 : Tryd.prog.bytesOf 58 = 8 := by kernel_rfl
    have hlen : len ≤ 140737488355328 := by
      have := hz ((len + (cap - len)) * 24) (by simp [DataW.weights, Tryd.underlying26, hb])
      omega
    have hrl : ∀ r, r < len → A r ≠ none → L r ≤ 140737488355328 := by
      intro r hr' hA
      obtain ⟨a', ha'⟩ := Option.ne_none_iff_exists'.1 hA
      have h1 := (hrow r (by omega))
      have hzr := h1.2.2.2.1
      have := hz (((Z r).take (L r)).length * 8 + ((Z r).drop (L r)).length * 8) (by
        simp only [DataW.weights, Tryd.underlying26, List.mem_cons, List.mem_append]
        refine .inr (.inl (mem_weightsAll (d := intRow .u64 (A r) (L r) (Z r)) (List.mem_map.2 ⟨r, by simpa using hr', rfl⟩) ?_))
        rw [ha']
        simp [intRow, DataW.weights, Tryd.underlying25, hb2, lits, Nat.add_mul])
      have h2 := h1.2.1
      simp at this
      omega
    refine ⟨some a, (List.range len).map fun r => ((Z r).take (L r)).map (BitVec.ofInt 64), cap, by simp, ⟨by simpa using hlen, fun k hk => ?_⟩⟩
    have hk' : k < len := by simpa using hk
    obtain ⟨h1, h2, h3, h4, h5, h6, h7⟩ := hrow k (by omega)
    have h0 := (hrow 0 (by omega)).1
    have ha := spot_of (by simpa [Addr.add] using h0)
    rw [ha, add_at] at h1
    have hn : nth ((List.range len).map fun r => ((Z r).take (L r)).map (BitVec.ofInt 64)) k = ((Z k).take (L k)).map (BitVec.ofInt 64) := by
      rw [nth_eq _ _ hk]; simp
    have hll : (((Z k).take (L k)).map (BitVec.ofInt 64)).length = L k := by simp; omega
    refine ⟨a.block, a.off, A k, C k, by rw [← ha], by rw [h1, hn, hll], ?_⟩
    rw [hn]
    cases hA : A k with
    | none =>
      have : L k = 0 := by have := h6 hA; omega
      rw [this]; simp; exact RU.nil _ _
    | some a' =>
      have hlk := hrl k hk' (by rw [hA]; simp)
      refine ⟨by rw [hll]; exact hlk, fun q hq => ?_⟩
      rw [hll] at hq
      obtain ⟨_, hcell⟩ := h7 a' hA
      have hb' := spot_of (by simpa [Addr.add] using hcell 0 (by omega))
      have hcq := hcell q (by omega)
      rw [hb', add_at] at hcq
      refine ⟨a'.block, a'.off, by rw [← hb'], ?_⟩
      rw [hcq]
      have hzq : (Z k).getD q 0 = (Z k)[q]'(by omega) := by simp [List.getD, List.getElem?_eq_getElem (show q < (Z k).length by omega)]
      have hnq : nth (((Z k).take (L k)).map (BitVec.ofInt 64)) q = BitVec.ofInt 64 ((Z k)[q]'(by omega)) := by
        rw [nth_eq _ _ (by rw [hll]; exact hq)]; simp
      rw [hnq, hzq, un_ofInt (h5 _ (List.getElem_mem _))]
/-- A node. -/
theorem open_nd {fuel : Nat} {cs : List Value} {x : DataW H × List MemPlace} (h : DataW.trod enc Tryd.prog w 0 (fun _ => true) true fuel 57 cs = some x) : ∃ n : Nd, cs = ndCells n := by
  have hc6 : Tryd.prog.cellsOf 57 = 6 := by kernel_rfl
  have hc1 : Tryd.prog.cellsOf 3 = 1 := by kernel_rfl
  obtain ⟨xs, n, _, _, hl, hxl, hf⟩ := DataW.trod_struct Tryd.underlying57 h
  rw [hc6] at hl
  have key : ∀ i, i < 6 → ∀ f : Field, f.type = 3 → f.offset = i → DataW.trod enc Tryd.prog w 0 (fun _ => true) true n f.type ((cs.drop f.offset).take (Tryd.prog.cellsOf f.type)) = xs[i]? → i < xs.length → ∃ v : Int, cs[i]? = some (.int .i64 v) := by
    intro i hi f ft fo h hx
    rw [ft, fo, hc1] at h
    have hx2 : xs[i]? = some (xs[i]'hx) := List.getElem?_eq_getElem hx
    rw [hx2] at h
    obtain ⟨v, hv, _, _⟩ := DataW.trod_int Tryd.underlying3 h
    refine ⟨v, ?_⟩
    have := congrArg (fun l => l[0]?) hv
    simpa [List.getElem?_take] using this
  have hx6 : xs.length = 6 := hxl
  obtain ⟨v0, e0⟩ := key 0 (by omega) _ rfl rfl (hf 0 _ rfl) (by omega)
  obtain ⟨v1, e1⟩ := key 1 (by omega) _ rfl rfl (hf 1 _ rfl) (by omega)
  obtain ⟨v2, e2⟩ := key 2 (by omega) _ rfl rfl (hf 2 _ rfl) (by omega)
  obtain ⟨v3, e3⟩ := key 3 (by omega) _ rfl rfl (hf 3 _ rfl) (by omega)
  obtain ⟨v4, e4⟩ := key 4 (by omega) _ rfl rfl (hf 4 _ rfl) (by omega)
  obtain ⟨v5, e5⟩ := key 5 (by omega) _ rfl rfl (hf 5 _ rfl) (by omega)
  refine ⟨⟨v0, v1, v2, v3, v4, v5⟩, List.ext_getElem? fun i => ?_⟩
  rcases Nat.lt_or_ge i 6 with hi | hi
  · rcases (show i = 0 ∨ i = 1 ∨ i = 2 ∨ i = 3 ∨ i = 4 ∨ i = 5 by omega) with rfl | rfl | rfl | rfl | rfl | rfl
    · rw [e0]; rfl
    · rw [e1]; rfl
    · rw [e2]; rfl
    · rw [e3]; rfl
    · rw [e4]; rfl
    · rw [e5]; rfl
  · rw [List.getElem?_eq_none (by omega), List.getElem?_eq_none (by simp [ndCells]; omega)]
/-- A formula. -/
theorem open_rn {fuel : Nat} {cs : List Value} {x : DataW H × List MemPlace} (h : DataW.trod enc Tryd.prog w 0 (fun _ => true) true fuel 31 cs = some x) (hz : ∀ n ∈ x.1.weights Tryd.prog 31, n ≤ reachBytes) :
    ∃ a l c, cs = [.slice a (l : List Nd).length c] ∧ RN w a l := by
  have hc6 : Tryd.prog.cellsOf 57 = 6 := by kernel_rfl
  rcases open_slice Tryd.underlying31 h with ⟨rfl, _⟩ | ⟨a, len, cap, m, n, D, Pl, rfl, _, hl, hc, hm, hx, hel⟩
  · exact ⟨none, [], 0, rfl, RN.nil _ _⟩
  · simp only [if_true] at hm
    rw [hx] at hz
    have hr := reach_le
    have hb : Tryd.prog.bytesOf 57 = 48 := by kernel_rfl
    have hlen : len ≤ 140737488355328 := by
      have := hz ((len + (m - len)) * 48) (by simp [DataW.weights, Tryd.underlying31, hb])
      omega
    have hnd : ∀ i, i < len → ∃ nd : Nd, ∀ j, j < 6 → w.cell? (a.add (i * 6 + j)) = (ndCells nd)[j]? := by
      intro i hi
      obtain ⟨cs', h1, h2⟩ := hel i (by omega)
      rw [hc6] at h1
      obtain ⟨nd, rfl⟩ := open_nd h2
      obtain ⟨_, _, h3⟩ := World.cells?_some h1
      refine ⟨nd, fun j hj => ?_⟩
      have h4 := h3 j hj
      have ha : ∀ (p q : Nat), (a.add p).add q = a.add (p + q) := by
        intro p q
        unfold Addr.add
        by_cases hp : p = 0 <;> by_cases hq : q = 0 <;> simp [hp, hq, Nat.add_assoc]
      rw [ha] at h4
      exact h4
    obtain ⟨g, hg⟩ : ∃ g : Nat → Nd, ∀ i, i < len → ∀ j, j < 6 → w.cell? (a.add (i * 6 + j)) = (ndCells (g i))[j]? := by
      refine ⟨fun i => if h : i < len then Classical.choose (hnd i h) else default, fun i hi => ?_⟩
      simp only [hi, dif_pos]
      exact Classical.choose_spec (hnd i hi)
    refine ⟨some a, (List.range len).map g, cap, by simp, ⟨by simpa using hlen, fun k hk => ?_⟩⟩
    have hk' : k < len := by simpa using hk
    have h0 := hg 0 (by omega) 0 (by omega)
    have ha := spot_of (v := .int .i64 (g 0).op) (by simpa [Addr.add, ndCells] using h0)
    have hn : nth ((List.range len).map g) k = g k := by rw [nth_eq _ _ hk]; simp
    rw [hn]
    have hgk := hg k hk'
    rw [ha] at hgk
    simp only [add_at] at hgk
    refine ⟨a.block, a.off, by rw [← ha], ?_, ?_, ?_, ?_, ?_, ?_⟩
    · exact hgk 0 (by omega)
    · rw [Nat.add_assoc]; exact hgk 1 (by omega)
    · rw [Nat.add_assoc]; exact hgk 2 (by omega)
    · rw [Nat.add_assoc]; exact hgk 3 (by omega)
    · rw [Nat.add_assoc]; exact hgk 4 (by omega)
    · rw [Nat.add_assoc]; exact hgk 5 (by omega)
set_option maxRecDepth 100000 in
/-- A model, as an argument. -/
theorem open_mo {t : Nat} {v : Value} {d : DataW H} {p : List MemPlace} {r : Reach} {b0 : Nat} (ht : t = 28) (hval : Value.okWide Tryd.prog w r b0 t v) (h : DataW.Trod enc Tryd.prog w 0 (fun _ => true) true t v d p) (hz : ∀ n ∈ d.weights Tryd.prog t, n ≤ reachBytes) :
    ∃ M va ra vc rc, v = .agg #[.int .i64 M.worlds, .slice va M.val.length vc, .slice ra M.rel.length rc] ∧ RM w va ra M := by
  subst ht
  have hc0 : Tryd.prog.cellsOf 3 = 1 := by kernel_rfl
  have hc1 : Tryd.prog.cellsOf 25 = 1 := by kernel_rfl
  have hc2 : Tryd.prog.cellsOf 26 = 1 := by kernel_rfl
  have hc3 : Tryd.prog.cellsOf 28 = 3 := by kernel_rfl
  obtain ⟨cs, rfl, hcs⟩ := okWide_struct Tryd.underlying28 hval
  obtain ⟨fuel, h⟩ := h
  obtain ⟨y0, y1, y2, n, hx, hl, u0, u1, u2⟩ := trod_struct3 Tryd.underlying28 h
  simp only [Prod.mk.injEq] at hx
  obtain ⟨rfl, rfl⟩ := hx
  rw [hc3] at hl
  simp only [hc0, hc1, hc2] at u0 u1 u2
  obtain ⟨i, hi, _, _⟩ := DataW.trod_int Tryd.underlying3 u0
  have hzs : ∀ n ∈ DataW.weightsEach Tryd.prog [3, 25, 26] [y0.1, y1.1, y2.1], n ≤ reachBytes := by
    intro n hn
    refine hz n ?_
    simp only [DataW.weights, Tryd.underlying28]
    exact hn
  obtain ⟨va, V, vc, hv, hV⟩ := open_ru u1 (fun n hn => hzs n (DataW.weights_mem_each (j := 1) rfl rfl n hn))
  obtain ⟨ra, R, rc, hr, hR⟩ := open_rr u2 (fun n hn => hzs n (DataW.weights_mem_each (j := 2) rfl rfl n hn))
  refine ⟨⟨i, V, R⟩, va, ra, vc, rc, ?_, ⟨hV, hR⟩⟩
  have hcl : (Value.agg cs).cells.toList = [.int .i64 i, .slice va V.length vc, .slice ra R.length rc] := by
    generalize (Value.agg cs).cells.toList = L at hl hi hv hr
    match L, hl with
    | [a, b, c], _ =>
      simp at hi hv hr
      rw [hi, hv, hr]
  have e2 : cs.toList = [.int .i64 i, .slice va V.length vc, .slice ra R.length rc] := hcl
  have e3 : cs = #[.int .i64 i, .slice va V.length vc, .slice ra R.length rc] := by
    apply Array.ext'
    rw [e2]
  rw [e3]
end
end Wt

/- What the row's condition on the library's table gives the walks; a slice of numbers among the arguments, opened. -/
namespace Go.Proofs.YtflnfcmbalhpnaaDoor
open Go.ChangeShapes Go.WideShapes Go.ChangeAt Go.RowKit

theorem gTab : Tryd.prog.globalNamed "math/bits.deBruijn64tab" = some 0 := by kernel_rfl
theorem tTab : (Tryd.prog.globals[0]?).map (·.type) = some 124 := by kernel_rfl
theorem tabD : (Rows.laid_math_bits_deBruijn64tab : DataW Unit) = .agg (Lib.deBruijn64tab.map fun n : Nat => .lit (.int .u8 (n : Int))) := by
  unfold Rows.laid_math_bits_deBruijn64tab Lib.deBruijn64tab
  rfl
set_option maxRecDepth 100000 in
theorem tab_of {W : World} {fuel : Nat} {cs : List Value} {q : List MemPlace} {d : DataW Unit} {encU : TypeId × Value → Unit} {base : Nat} {sp : Nat → Bool} {held : Bool} (hd : d = .agg (Lib.deBruijn64tab.map fun n : Nat => .lit (.int .u8 (n : Int))))
    (h : DataW.trod encU Tryd.prog W base sp held fuel 124 cs = some (d, q)) : ∀ j, j < Lib.deBruijn64tab.length → cs[j]? = some (.int .u8 ((Lib.deBruijn64tab.getD j 0 : Nat) : Int)) := by
  intro j hj
  obtain ⟨xs, m1, rfl, hx1, hlen, hn, hel⟩ := DataW.trod_array Tryd.underlying124 h
  have c5 : Tryd.prog.cellsOf 5 = 1 := by kernel_rfl
  have hl64 : Lib.deBruijn64tab.length = 64 := by decide
  have hj64 : j < 64 := by omega
  have h0 := hel j (by omega)
  have hxj : j < xs.length := by omega
  rw [List.getElem?_eq_getElem hxj, c5, Nat.mul_one] at h0
  simp only [Prod.mk.injEq] at hx1
  obtain ⟨hx1, _⟩ := hx1
  rw [hd] at hx1
  simp only [DataW.agg.injEq] at hx1
  have e1 : (xs[j]).1 = .lit (.int .u8 ((Lib.deBruijn64tab.getD j 0 : Nat) : Int)) := by
    have e2 : (xs.map (·.1))[j]? = (Lib.deBruijn64tab.map fun n : Nat => (DataW.lit (.int .u8 (n : Int)) : DataW Unit))[j]? := by rw [hx1]
    rw [List.getElem?_map, List.getElem?_map, List.getElem?_eq_getElem hxj, List.getElem?_eq_getElem hj] at e2
    simp only [Option.map_some, Option.some.injEq] at e2
    rw [e2, List.getD_eq_getElem?_getD, List.getElem?_eq_getElem hj]
    rfl
  obtain ⟨k, k1, k2, _⟩ := DataW.trod_int Tryd.underlying5 h0
  rw [k2] at e1
  simp only [DataW.lit.injEq, Lit.int.injEq, true_and] at e1
  subst e1
  have k3 := congrArg (fun l => l[0]?) k1
  simp only [List.getElem?_take, List.getElem?_drop] at k3
  simpa using k3
theorem of_laid {W : World} (h : laidMetH Tryd.prog [("math/bits.deBruijn64tab", Rows.laid_math_bits_deBruijn64tab)] W) : Wt.Tab W := by
  rw [MakeChecks.laidMetH_plain _ _ _ (by kernel_rfl)] at h
  obtain ⟨ps, ⟨g0, t0, cs0, f0, p0, q0, hg0, ht0, hv0, hd0, _⟩, _⟩ := h
  obtain rfl := Option.some.inj (gTab.symm.trans hg0)
  obtain rfl := Option.some.inj (tTab.symm.trans ht0)
  intro j hj
  have hc := tab_of tabD hd0 j hj
  have := World.var?_cell hg0 hv0 j
  rw [← Array.getElem?_toList, hc] at this
  simpa using this
end Go.Proofs.YtflnfcmbalhpnaaDoor
namespace Wt
open Go Go.ChangeShapes Go.WideShapes Go.ChangeAt Go.RowKit Go.Deep Go.Proofs Fm
section
variable {H : Type} {enc : TypeId × Value → H} {w : World}
/-- A slice of numbers. -/
theorem open_ri {fuel : Nat} {cs : List Value} {x : DataW H × List MemPlace} (h : DataW.trod enc Tryd.prog w 0 (fun _ => true) true fuel 35 cs = some x) (hz : ∀ n ∈ x.1.weights Tryd.prog 35, n ≤ reachBytes) :
    ∃ a l c, cs = [.slice a (l : List Int).length c] ∧ RI w a l := by
  rcases open_ints Tryd.underlying35 Tryd.underlying3 (by kernel_rfl) h with ⟨rfl, _⟩ | ⟨a, len, cap, zs, rfl, _, hl, hc, hzl, hx, hcell, hwf⟩
  · exact ⟨none, [], 0, rfl, RI.nil _ _⟩
  · simp only [if_true] at hzl
    rw [hx] at hz
    have hw := hz ((lits (H := H) .i64 (zs.take len)).length * Tryd.prog.bytesOf 3 + (lits (H := H) .i64 (zs.drop len)).length * Tryd.prog.bytesOf 3) (by
      simp [DataW.weights, Tryd.underlying35, Nat.add_mul])
    have hb : Tryd.prog.bytesOf 3 = 8 := by kernel_rfl
    rw [hb] at hw
    have hll : (lits (H := H) .i64 (zs.take len)).length = len := by simp [lits]; omega
    rw [hll] at hw
    have hr := reach_le
    refine ⟨some a, zs.take len, cap, by simp; omega, ⟨by simp; omega, fun k hk => ?_⟩⟩
    have hk' : k < len := by simp at hk; omega
    have h0 := hcell 0 (by omega)
    have ha := spot_of (by simpa [Addr.add] using h0)
    have hck := hcell k (by omega)
    rw [ha, add_at] at hck
    refine ⟨a.block, a.off, by rw [← ha], ?_⟩
    rw [hck]
    have hzk : zs.getD k 0 = zs[k]'(by omega) := by simp [List.getD, List.getElem?_eq_getElem (show k < zs.length by omega)]
    have hn : nth (zs.take len) k = zs[k]'(by omega) := by
      rw [nth_eq _ _ hk]; simp
    rw [hn, hzk]
end
end Wt
