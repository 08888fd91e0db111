/- Plain: the classes sorted and compacted are their lowest worlds in order. -/
import Derived.Test.YtbeaagnahldefaaDoorM7Au
import Derived.Lib.SlicesCompact
import Derived.Test.YtbeaagnahldefaaDoorM7Ac
import Derived.StringKeys
namespace Wt
open Go Go.RowKit Go.Proofs Fm

theorem strict_eq : ∀ {a b : List Int}, a.Pairwise (· < ·) → b.Pairwise (· < ·) → (∀ x, x ∈ a ↔ x ∈ b) → a = b
  | [], [], _, _, _ => rfl
  | [], y :: b, _, _, h => by have := (h y).2 (by simp); simp at this
  | x :: a, [], _, _, h => by have := (h x).1 (by simp); simp at this
  | x :: a, y :: b, ha, hb, h => by
    rw [List.pairwise_cons] at ha hb
    have hxy : x = y := by
      rcases List.mem_cons.1 ((h x).1 (by simp)) with e | hx
      · exact e
      · rcases List.mem_cons.1 ((h y).2 (by simp)) with e | hy
        · exact e.symm
        · have h1 := ha.1 y hy
          have h2 := hb.1 x hx
          omega
    subst hxy
    congr 1
    refine strict_eq ha.2 hb.2 fun z => ?_
    constructor
    · intro hz
      rcases List.mem_cons.1 ((h z).1 (by simp [hz])) with e | h3
      · have := ha.1 z hz; omega
      · exact h3
    · intro hz
      rcases List.mem_cons.1 ((h z).2 (by simp [hz])) with e | h3
      · have := hb.1 z hz; omega
      · exact h3
theorem compact_sorted {d : Array Int} (hs : ∀ i j, i ≤ j → j < d.size → d[i]! ≤ d[j]!) : ∀ m, m ≤ d.size → (Lib.compactUpTo d m).Pairwise (· < ·) ∧ ∀ x, x ∈ Lib.compactUpTo d m ↔ ∃ j, j < m ∧ d[j]! = x
  | 0, _ => by simp [Lib.compactUpTo]
  | m + 1, hm => by
    obtain ⟨h1, h2⟩ := compact_sorted hs m (by omega)
    rw [Lib.compactUpTo_succ]
    have hk : Lib.keeps d m = true ↔ m = 0 ∨ d[m]! ≠ d[m - 1]! := by simp [Lib.keeps]
    by_cases hkm : Lib.keeps d m = true
    · rw [if_pos hkm]
      refine ⟨List.pairwise_append.2 ⟨h1, by simp, fun x hx y hy => ?_⟩, fun x => ?_⟩
      · obtain ⟨j, hj, rfl⟩ := (h2 x).1 hx
        obtain rfl : y = d[m]! := by simpa using hy
        have a1 := hs j (m - 1) (by omega) (by omega)
        have a2 := hs (m - 1) m (by omega) (by omega)
        rcases hk.1 hkm with h | h
        · omega
        · omega
      · rw [List.mem_append, h2, List.mem_singleton]
        constructor
        · rintro (⟨j, hj, e⟩ | e)
          · exact ⟨j, by omega, e⟩
          · exact ⟨m, by omega, e.symm⟩
        · rintro ⟨j, hj, e⟩
          by_cases hjm : j = m
          · subst hjm; exact .inr e.symm
          · exact .inl ⟨j, by omega, e⟩
    · rw [if_neg hkm, List.append_nil]
      refine ⟨h1, fun x => ?_⟩
      rw [h2]
      have hn : ¬ (m = 0 ∨ d[m]! ≠ d[m - 1]!) := fun h => hkm (hk.2 h)
      have hm0 : m ≠ 0 := fun h => hn (.inl h)
      have he : d[m]! = d[m - 1]! := Decidable.not_not.1 fun h => hn (.inr h)
      constructor
      · rintro ⟨j, hj, e⟩; exact ⟨j, by omega, e⟩
      · rintro ⟨j, hj, e⟩
        by_cases hjm : j = m
        · subst hjm; exact ⟨j - 1, by omega, he.symm.trans e⟩
        · exact ⟨j, by omega, e⟩
/-- The classes sorted and compacted. -/
theorem compact_low (L : List (BitVec 64)) (N : Nat) : Lib.compact ((natI (lowL L N)).mergeSort fun x y => decide (x ≤ y)) = natI (repL L N) := by
  have hp := List.mergeSort_perm (natI (lowL L N)) fun x y => decide (x ≤ y)
  have hs := List.pairwise_mergeSort (le := fun x y : Int => decide (x ≤ y)) (fun a b c h1 h2 => by simp at h1 h2 ⊢; omega) (fun a b => by simp; omega) (natI (lowL L N))
  generalize (natI (lowL L N)).mergeSort (fun x y => decide (x ≤ y)) = zs at *
  have hsort : ∀ i j, i ≤ j → j < zs.toArray.size → zs.toArray[i]! ≤ zs.toArray[j]! := by
    intro i j hij hj
    have hjl : j < zs.length := by simpa using hj
    rw [List.pairwise_iff_getElem] at hs
    by_cases e : i = j
    · subst e; exact Int.le_refl _
    · have := hs i j (by omega) hjl (by omega)
      have hi2 : i < zs.toArray.size := by simp; omega
      rw [getElem!_pos zs.toArray i hi2, getElem!_pos zs.toArray j hj]
      simpa using this
  obtain ⟨h1, h2⟩ := compact_sorted hsort zs.length (by simp)
  refine strict_eq h1 ?_ fun x => ?_
  · unfold natI
    exact List.pairwise_map.2 ((repL_pair L N).imp fun h => by omega)
  · have h3 : x ∈ zs ↔ ∃ j, j < zs.length ∧ zs.toArray[j]! = x := by
      constructor
      · intro hx
        obtain ⟨j, hj, e⟩ := List.getElem_of_mem hx
        exact ⟨j, hj, by rw [getElem!_pos zs.toArray j (by simpa using hj)]; simpa using e⟩
      · rintro ⟨j, hj, e⟩
        rw [getElem!_pos zs.toArray j (by simpa using hj)] at e
        rw [← e]; simp
    unfold Lib.compact
    rw [h2, ← h3, hp.mem_iff]
    unfold natI lowL
    simp only [List.mem_map, List.mem_range]
    constructor
    · rintro ⟨v, ⟨w, hw, rfl⟩, rfl⟩
      exact ⟨_, repL_low L hw, rfl⟩
    · rintro ⟨v, hv, rfl⟩
      obtain ⟨a, b⟩ := repL_mem.1 hv
      exact ⟨v, ⟨v, a, b⟩, rfl⟩
end Wt

/- Plain: how the reference gathers the smallest filtration, step by step. -/
namespace Wt
open Go Go.RowKit Go.Proofs Fm

section
variable (M : Mo) (L : List (BitVec 64)) (N a : Nat)
/-- Has a step from class c to class d been seen, up to the worlds w and v? -/
def stepB (w v c d : Nat) : Bool := ((List.range w).any fun x => (List.range N).any fun y => clsOf L N x == c && clsOf L N y == d && bt (nth (nth M.rel a) x) y) || (List.range v).any fun y => clsOf L N w == c && clsOf L N y == d && bt (nth (nth M.rel a) w) y
def smP (w v : Nat) : List (BitVec 64) := (List.range (repL L N).length).map fun c => setTo (fun d => stepB M L N a w v c d) (repL L N).length
theorem smP_len (w v : Nat) : (smP M L N a w v).length = (repL L N).length := by simp [smP]
theorem smP_bit {w v c d : Nat} (_h64 : N ≤ 64) (hc : c < (repL L N).length) (hd : d < 64) : bt (nth (smP M L N a w v) c) d = (decide (d < (repL L N).length) && stepB M L N a w v c d) := by
  unfold smP
  rw [nth_mapX _ hc, bt_setTo _ hd]
theorem smP_zero : smP M L N a 0 0 = List.replicate (repL L N).length 0#64 := by
  refine nth_ext (by simp [smP]) fun c hc => ?_
  rw [smP_len] at hc
  refine bt_ext fun d hd => ?_
  unfold smP
  rw [nth_mapX _ hc, bt_setTo _ hd, nth_eq _ _ (by simpa using hc)]
  simp [stepB, bt_zero]
theorem stepB_end (w c d : Nat) : stepB M L N a w N c d = stepB M L N a (w + 1) 0 c d := by
  unfold stepB
  rw [List.range_succ, List.any_append]
  simp
theorem smP_row (w : Nat) : smP M L N a w N = smP M L N a (w + 1) 0 := by
  unfold smP
  simp only [stepB_end]
theorem stepB_step {w v c d : Nat} : stepB M L N a w (v + 1) c d = (stepB M L N a w v c d || (clsOf L N w == c && clsOf L N v == d && bt (nth (nth M.rel a) w) v)) := by
  unfold stepB
  rw [List.range_succ, List.any_append, ← Bool.or_assoc]
  simp
theorem smP_no {w v : Nat} (h : bt (nth (nth M.rel a) w) v = false) : smP M L N a w (v + 1) = smP M L N a w v := by
  unfold smP
  simp only [stepB_step, h, Bool.and_false, Bool.or_false]
theorem smP_yes {w v : Nat} (h64 : N ≤ 64) (hw : w < N) (hv : v < N) (h : bt (nth (nth M.rel a) w) v = true) : smP M L N a w (v + 1) = (smP M L N a w v).set (clsOf L N w) (nth (smP M L N a w v) (clsOf L N w) ||| 1#64 <<< clsOf L N v) := by
  have hK := repL_len L N
  have hcw := clsOf_lt L hw
  have hcv := clsOf_lt L hv
  refine nth_ext (by simp [smP]) fun c hc => ?_
  rw [smP_len] at hc
  have hset : nth ((smP M L N a w v).set (clsOf L N w) (nth (smP M L N a w v) (clsOf L N w) ||| 1#64 <<< clsOf L N v)) c = if c = clsOf L N w then nth (smP M L N a w v) (clsOf L N w) ||| 1#64 <<< clsOf L N v else nth (smP M L N a w v) c := by
    rw [nth_eq _ _ (by rw [List.length_set, smP_len]; exact hc), List.getElem_set]
    by_cases e : clsOf L N w = c
    · rw [if_pos e, if_pos e.symm]
    · rw [if_neg e, if_neg (fun h => e h.symm)]
      exact (nth_eq _ _ (by rw [smP_len]; exact hc)).symm
  rw [hset]
  refine bt_ext fun d hd => ?_
  rw [smP_bit M L N a h64 hc hd, stepB_step, h]
  by_cases e : c = clsOf L N w
  · subst e
    rw [if_pos rfl, bt_or, smP_bit M L N a h64 hcw hd, bt_shl1]
    by_cases e2 : d = clsOf L N v
    · subst e2; simp [hd, hcv]
    · have : (clsOf L N v == d) = false := by simp; exact fun h => e2 h.symm
      simp [e2, this]
  · rw [if_neg e, smP_bit M L N a h64 hc hd]
    have : (clsOf L N w == c) = false := by simp; exact fun h => e h.symm
    simp [this]
theorem smP_done (h64 : N ≤ 64) : smP M L N a N 0 = (repL L N).map fun x => setTo (fun d => relS M L N a x (nth (repL L N) d)) (repL L N).length := by
  refine nth_ext (by simp [smP]) fun c hc => ?_
  rw [smP_len] at hc
  have hK := repL_len L N
  refine bt_ext fun d hd => ?_
  rw [smP_bit M L N a h64 hc hd, nth_mapN _ _ hc, bt_setTo _ hd]
  by_cases hdK : d < (repL L N).length
  · simp only [hdK, decide_true, Bool.true_and]
    rw [Bool.eq_iff_iff, relS_iff]
    unfold stepB
    simp only [List.range_zero, List.any_nil, Bool.or_false, List.any_eq_true, List.mem_range, Bool.and_eq_true, beq_iff_eq]
    constructor
    · rintro ⟨x, hx, y, hy, ⟨h1, h2⟩, h3⟩
      exact ⟨x, y, hx, hy, by rw [← clsOf_nth L hx, h1], by rw [← clsOf_nth L hy, h2], h3⟩
    · rintro ⟨x, y, hx, hy, h1, h2, h3⟩
      refine ⟨x, hx, y, hy, ⟨?_, ?_⟩, h3⟩
      · have : clsOf L N x = clsOf L N (nth (repL L N) c) := by unfold clsOf; rw [h1, rep_low hc]
        rw [this, clsOf_rep hc]
      · have : clsOf L N y = clsOf L N (nth (repL L N) d) := by unfold clsOf; rw [h2, rep_low hdK]
        rw [this, clsOf_rep hdK]
  · simp [hdK]
end
end Wt

/- Walks: what a view says of a node in a world, and whether it permits a step. -/
namespace Wt
open Go Go.RowKit Go.Maps Go.Proofs Fm

/-- The cells of a view. -/
structure VwAt (w : World) (b : Nat) (W : Int) (va ra ca sa : Option Addr) (vl vc rl rc cl cc sl sc : Nat) : Prop where
  c0 : w.cell? ⟨b, 0, none⟩ = some (.int .i64 W)
  c1 : w.cell? ⟨b, 1, none⟩ = some (.slice va vl vc)
  c2 : w.cell? ⟨b, 2, none⟩ = some (.slice ra rl rc)
  c3 : w.cell? ⟨b, 3, none⟩ = some (.slice ca cl cc)
  c4 : w.cell? ⟨b, 4, none⟩ = some (.slice sa sl sc)
theorem VwAt.ext {w w' : World} {b : Nat} {W : Int} {va ra ca sa : Option Addr} {vl vc rl rc cl cc sl sc : Nat} (h : VwAt w b W va ra ca sa vl vc rl rc cl cc sl sc) (e : Ext w w') : VwAt w' b W va ra ca sa vl vc rl rc cl cc sl sc :=
  ⟨e.cell h.c0, e.cell h.c1, e.cell h.c2, e.cell h.c3, e.cell h.c4⟩
theorem VwAt.new (w : World) (W : Int) (va ra ca sa : Option Addr) (vl vc rl rc cl cc sl sc T : Nat) : VwAt (w.alloc (.cells #[.int .i64 W, .slice va vl vc, .slice ra rl rc, .slice ca cl cc, .slice sa sl sc] T)) w.heap.size W va ra ca sa vl vc rl rc cl cc sl sc :=
  ⟨by simp, by simp, by simp, by simp, by simp⟩
theorem bit_un (s : BitVec 64) (k : Nat) : un (s >>> k &&& 1#64) = b01I (bt s k) := by
  have h : s >>> k &&& 1#64 = if bt s k then 1#64 else 0#64 := by
    refine bt_ext fun j hj => ?_
    rw [bt_and]
    have h1 : bt 1#64 j = decide (j = 0) := by
      have := bt_shl1 (k := j) 0
      rw [show (1#64 <<< 0) = 1#64 by simp] at this
      rw [this]; simp [hj]
    have h2 : bt (s >>> k) j = bt s (k + j) := by unfold bt; rw [BitVec.getLsbD_ushiftRight]
    rw [h1, h2]
    by_cases e : j = 0
    · subst e
      cases hb : bt s k
      · simp [bt_zero]
      · simp [h1]
    · cases hb : bt s k
      · simp [e, bt_zero]
      · simp [e, h1]
  rw [h]
  cases bt s k <;> rfl
set_option maxRecDepth 20000 in
set_option maxHeartbeats 2000000 in
theorem fholds_any (b : Nat) (W : Int) (L : List (BitVec 64)) (va ra ca sa : Option Addr) (vl vc rl rc cl cc sc : Nat) (w : World) (hv : VwAt w b W va ra ca sa vl vc rl rc cl cc L.length sc) (hs : RU w sa L) (i k : Nat) (hi : i < L.length) (_hk : k < 64) :
    Calls Tryd.prog 76 #[.pointer (some ⟨b, 0, none⟩), .int .i64 (i : Int), .int .i64 (k : Int)] w fun e w' => e = .returned (.bool (bt (nth L i) k)) ∧ w = w' := by
  obtain ⟨v0, v1, v2, v3, v4⟩ := hv
  have vlt := World.block_lt_of_cell? _ _ v0
  have hll := hs.len
  obtain ⟨b1, o1, rfl, hb1, hc1⟩ := hs.get hi
  have hu := bit_un (nth L i) k
  dsimp only at vlt
  clear hs
  cases hb : bt (nth L i) k
  all_goals
    rw [hb] at hu
    simp only [b01I, if_true, if_false, Bool.false_eq_true] at hu
    go_enter Tryd.func76, Tryd.ntmps76
    go_wp2_with fail
    go_ret
    exact ⟨rfl, rfl⟩
/-- Which nodes a view's list may hold. -/
def boxOk (c : List Nd) : Prop := ∀ k, k < c.length → (nth c k).op = 9 ∨ (nth c k).op = 10 → (nth c k).x.toNat < c.length ∧ 0 ≤ (nth c k).x
theorem perN_all {L : List (BitVec 64)} {c : List Nd} {keep : Bool} {a x y k : Nat} (h : ((List.range k).all fun i => perN L (nth c i) i a x y keep) = true) (h2 : perN L (nth c k) k a x y keep = true) : ((List.range (k + 1)).all fun i => perN L (nth c i) i a x y keep) = true := by
  rw [List.range_succ, List.all_append, h]
  simp [h2]
theorem permL_no {L : List (BitVec 64)} {c : List Nd} {keep : Bool} {a x y k : Nat} (hk : k < c.length) (h2 : perN L (nth c k) k a x y keep = false) : permL L c keep a x y = false := by
  cases h : permL L c keep a x y
  · rfl
  · unfold permL at h
    rw [List.all_eq_true] at h
    have := h k (List.mem_range.2 hk)
    rw [h2] at this; cases this
end Wt

/- Walk: (*filter.view).classes: a map from the sets of a world to its lowest world. -/
namespace Wt
open Go Go.RowKit Go.Maps Go.Proofs Fm

theorem MapOn.look0 {α : Type} {good : α → Prop} {enc : α → Value} {P : Program} {k t e : TypeId} {w : World} {b : Nat} {f : α → Option Int} (h : MapOn good enc w b f) (K : Keyed P k) (ht : P.underlying t = some (.map k e))
    (hz : (zeroValue e).run P w = .ok (.int .i64 0) w) (hinj : ∀ a a', enc a = enc a' → a = a') (hg : ∀ a, good a → ∃ l, keyOf P k (enc a) = some l) (a : α) (ha : good a) :
    (Instr.lookup t (.map (some b)) (enc a) false).run P w = .ok (.int .i64 ((f a).getD 0)) w := by
  obtain ⟨arr, clock, hb, h1, h2⟩ := h
  obtain ⟨l, hl⟩ := hg a ha
  have hfind := K.find w hl arr.toList (fun e he => by
    obtain ⟨a', n, hk, hga, _⟩ := h1 e he
    obtain ⟨l', hl'⟩ := hg a' hga
    exact ⟨l', by rw [hk]; exact hl'⟩)
  have hck := K.check w arr.isEmpty hl
  rcases hfind with ⟨hr, hno⟩ | ⟨j, e0, hr, hj, hke⟩
  · have hf : f a = none := by
      cases hfa : f a with
      | none => rfl
      | some n =>
        obtain ⟨e1, he1, hk1⟩ := h2 a n hfa
        exact absurd hk1 (hno e1 he1)
    simp [Instr.lookup, run_underlying ht, MapKept.run_getObj_map hb, hck, hr, hz, hf, Result.andThen]
  · obtain ⟨a', n, hk, _, hv, hfa⟩ := h1 e0 (List.mem_of_getElem? hj)
    have : a' = a := hinj _ _ (hk.symm.trans hke)
    subst this
    simp [Instr.lookup, run_underlying ht, MapKept.run_getObj_map hb, hck, hr, hv, hfa, Result.andThen]
theorem wpList_look_on0 {P : Program} (w : World) {ops : Array Oper} {rest : List Oper} {o : Oper} {a : Act} {Q : Exit → Act → World → Prop}
    (hg : o.guard = none) (m x : Operand) (t : TypeId) (hop : o.op = Op.lookup t m x false) (b : Nat) (hm : a.eval m = .map (some b)) (key : Value) (hx : a.eval x = key) (v : Value)
    (hrun : (Instr.lookup t (.map (some b)) key false).run P w = .ok v w) (hK : wpList P ops Q rest (a.put o.dst v) w) : wpList P ops Q (o :: rest) a w := by
  refine wpList_plain hg fun K' hK' => ?_
  unfold Oper.wp
  simp [execOp, hop, hm, hx, hrun, Result.andThen]
  exact hK' _ _ hK
theorem byte_info : (Tryd.prog.info? 5).map (fun i => (i.zero, i.size, i.bytes)) = some (some (.int .u8 0), 1, 1) := by kernel_rfl
theorem str_keyed : Keyed Tryd.prog 9 := string_keyed Tryd.underlying9
theorem key_str (l : List Bool) (h : goodK l) : ∃ k, keyOf Tryd.prog 9 (encK l) = some k := ⟨_, Go.WideMaps.keyOf_string_mk Tryd.underlying9 (by rw [strK_size]; unfold goodK at h; unfold maxLen; omega)⟩
def b8 (b : Bool) : Value := .int .u8 (b01I b)
theorem OG.grown {α : Type} {w w' : World} {base T n g c : Nat} {enc : α → Value} {l : List α} {r : Nat} (h : OG w base T enc g n c l) (hg : w.grownBy w' (some r)) (hne : g ≠ r) : OG w' base T enc g n c l :=
  ⟨h.len, h.row.kept (row := some r) hg (by simp [Value.ownBlock, hne])⟩
/-- A row of bytes as a string. -/
theorem conv_key {w : World} {base g n c : Nat} {l : List Bool} (h : OG w base 5 b8 g n c l) : (convert 109 9 (.slice (some ⟨g, 0, none⟩) n c)).run Tryd.prog w = .ok (.string (strK l)) w := by
  have hl := h.len
  refine run_convert_bytes_arg w 109 5 Tryd.underlying109 Tryd.underlying5 g 0 n c (l.map b01I) (by simpa using hl) (fun i hi => ?_) 9 Tryd.underlying9
  rw [Nat.zero_add, h.cell hi]
  show some (Value.int .u8 (b01I (nth l i))) = _
  rw [List.getD_eq_getElem?_getD, List.getElem?_map, nth_eq _ _ (by omega)]
  simp [show i < l.length by omega]
/-- The state of classes ahead of world k. -/
structure ClsAt (w0 : World) (bm g : Nat) (L : List (BitVec 64)) (N k : Nat) (wr : World) : Prop where
  ext : Ext w0 wr
  hb : w0.heap.size ≤ bm
  hbl : bm < wr.heap.size
  ne : bm ≠ g
  map : MapOn goodK encK wr bm (clsF L k)
  out : OG wr w0.heap.size 3 iv g N N (doneL N k (fun j => ((lowOf L j : Nat) : Int)) 0)
theorem ClsAt.more {w0 wr w' : World} {bm g : Nat} {L : List (BitVec 64)} {N k : Nat} (h : ClsAt w0 bm g L N k wr) (e : Ext wr w') : ClsAt w0 bm g L N k w' :=
  ⟨h.ext.trans e, h.hb, Nat.lt_of_lt_of_le h.hbl e.size, h.ne, h.map.kept (e.block _ h.hbl), h.out.ext e⟩
/-- The key of world k, of which j bytes are laid. -/
structure KeyAt (w0 : World) (bm g gk : Nat) (L : List (BitVec 64)) (N k j : Nat) (wr : World) : Prop where
  cls : ClsAt w0 bm g L N k wr
  nm : gk ≠ bm
  ng : gk ≠ g
  key : OG wr w0.heap.size 5 b8 gk L.length L.length (doneL L.length j (fun i => bt (nth L i) k) false)
theorem KeyAt.put {w0 wr : World} {bm g gk : Nat} {L : List (BitVec 64)} {N k j : Nat} (h : KeyAt w0 bm g gk L N k j wr) (hj : j < L.length) {x : Bool} (hx : bt (nth L j) k = x) : KeyAt w0 bm g gk L N k (j + 1) (wr.setCell ⟨gk, j, none⟩ (b8 x)) := by
  subst hx
  refine ⟨⟨h.cls.ext.setCell h.key.base_le _, h.cls.hb, by rw [World.size_setCell]; exact h.cls.hbl, h.cls.ne, h.cls.map.kept (heap_setCell_other wr ⟨gk, j, none⟩ bm _ (by have := h.nm; simp; omega)), h.cls.out.other _ _ (Ne.symm h.ng)⟩, h.nm, h.ng, ?_⟩
  rw [← doneL_set _ _ _ _ hj]
  exact h.key.set j _
theorem doneL_full {α : Type} (n : Nat) (f : Nat → α) (z : α) : doneL n n f z = (List.range n).map f := by
  unfold doneL
  exact List.map_congr_left fun j hj => if_pos (List.mem_range.1 hj)
theorem key_full (L : List (BitVec 64)) (k : Nat) : doneL L.length L.length (fun i => bt (nth L i) k) false = bitsL L k := by
  rw [doneL_full]
  refine nth_ext (by simp [bitsL]) fun i hi => ?_
  have hi2 : i < L.length := by simpa using hi
  unfold bitsL
  rw [nth_mapX _ hi2, nth_mapN _ _ hi2]
theorem ClsAt.step {w0 wr W4 : World} {bm g : Nat} {L : List (BitVec 64)} {N k : Nat} (h : ClsAt w0 bm g L N k wr) (hm : MapOn goodK encK W4 bm (clsF L (k + 1))) (hg : wr.grownBy W4 (some bm)) (hk : k < N) : ClsAt w0 bm g L N (k + 1) (W4.setCell ⟨g, k, none⟩ (.int .i64 ((lowOf L k : Nat) : Int))) := by
  have ho := h.out.grown hg (Ne.symm h.ne)
  refine ⟨(Below.grown h.ext hg h.ext.size (fun r e => by cases e; exact h.hb)).setCell ho.base_le _, h.hb, by rw [World.size_setCell]; exact Nat.lt_of_lt_of_le h.hbl hg.size, h.ne, hm.kept (heap_setCell_other W4 ⟨g, k, none⟩ bm _ (by have := h.ne; simp; omega)), ?_⟩
  rw [← doneL_set _ _ _ _ hk]
  exact ho.set k _
theorem look_low {W : World} {bm k : Nat} {L : List (BitVec 64)} (h : MapOn goodK encK W bm (clsF L (k + 1))) (hg : goodK (bitsL L k)) : (Instr.lookup 108 (.map (some bm)) (encK (bitsL L k)) false).run Tryd.prog W = .ok (.int .i64 ((lowOf L k : Nat) : Int)) W := by
  have := h.look0 str_keyed Tryd.underlying108 (zero_int W) encK_inj key_str (bitsL L k) hg
  rw [clsF_low] at this
  exact this
set_option maxRecDepth 20000 in
set_option maxHeartbeats 8000000 in
theorem classes_any (N b : Nat) (L : List (BitVec 64)) (va ra ca sa : Option Addr) (vl vc rl rc cl cc sc : Nat) (w : World) (hv : VwAt w b (N : Int) va ra ca sa vl vc rl rc cl cc L.length sc) (hs : RU w sa L) (h64 : N ≤ 64) (hL : L.length ≤ 200) :
    Calls Tryd.prog 31 #[.pointer (some ⟨b, 0, none⟩)] w fun e w' => ∃ g, e = .returned (.slice (some ⟨g, 0, none⟩) N N) ∧ OG w' w.heap.size 3 iv g N N (natI (lowL L N)) ∧ Ext w w' := by
  have hmm := @run_makeMap Tryd.prog
  have mk1 := fun (w : World) => run_make_row' (P := Tryd.prog) 29 3 (.int .i64 0) 8 Tryd.underlying29 int_info rfl .i64 .i64 N (by omega) (by omega) w
  have mk2 := fun (w : World) => run_make_row' (P := Tryd.prog) 109 5 (.int .u8 0) 1 Tryd.underlying109 byte_info rfl .i64 .i64 L.length (by omega) (by omega) w
  have HV := Lib.hid hv
  have HS := Lib.hid hs
  have hS0 : ClsAt w w.heap.size (w.heap.size + 1) L N 0 ((w.alloc (.map #[] 0)).alloc (.cells (madeCells #[.int .i64 0] N) 3)) := by
    refine ⟨((Ext.refl w).alloc _).alloc _, Nat.le_refl _, by simp; omega, by omega, ?_, ?_⟩
    · rw [clsF_zero]
      exact (MapOn.made w).kept (Below.heap_alloc _ _ _ (by simp))
    · rw [doneL_zero]
      have h := OG.made (enc := iv) (T := 3) (base := w.heap.size) (w.alloc (.map #[] 0)) N (0 : Int) (by simp) (by omega)
      rw [show (w.alloc (.map #[] 0)).heap.size = w.heap.size + 1 by simp] at h
      exact h
  have HS0 := Lib.hid hS0
  obtain ⟨v0, v1, v2, v3, v4⟩ := hv
  have vlt := World.block_lt_of_cell? _ _ v0
  dsimp only at vlt
  clear hS0 hs
  go_enter Tryd.func31, Tryd.ntmps31
  go_wp2_with fail
  clear v0 v1 v2 v3 v4 mk1
  generalize (w.alloc (.map #[] 0)).alloc (.cells (madeCells #[.int .i64 0] N) 3) = W0 at *
  go_loopw [20] (fun i wr => ∃ k : Nat, k ≤ N ∧ i = .int .i64 (k : Int) ∧ Hid (ClsAt w w.heap.size (w.heap.size + 1) L N k wr)) (fun i _ => N - (intOf i).toNat)
  case atStart => exact ⟨0, Nat.zero_le _, rfl, HS0⟩
  case round =>
    obtain ⟨k, hk, rfl, HC⟩ := hrel
    by_cases hlt : k < N
    · obtain ⟨v0, v1, v2, v3, v4⟩ := HV.out.ext HC.out.ext
      have vl2 := World.block_lt_of_cell? _ _ v0
      dsimp only at vl2
      go_wp2_with fail
      have hK0 : KeyAt w w.heap.size (w.heap.size + 1) wr.heap.size L N k 0 (wr.alloc (.cells (madeCells #[.int .u8 0] L.length) 5)) := by
        refine ⟨HC.out.more ((Ext.refl wr).alloc _), by have := HC.out.hbl; omega, by have := HC.out.out.lt; omega, ?_⟩
        rw [doneL_zero]
        exact OG.made (enc := b8) (T := 5) wr L.length false HC.out.ext.size (by omega)
      have HK0 := Lib.hid hK0
      generalize wr.heap.size = gk at *
      generalize wr.alloc (.cells (madeCells #[.int .u8 0] L.length) 5) = W1 at *
      clear hK0 v0 v1 v2 v3 v4 vl2
      go_loopw [34] (fun i wz => ∃ j : Nat, j ≤ L.length ∧ i = .int .i64 (j : Int) ∧ Hid (KeyAt w w.heap.size (w.heap.size + 1) gk L N k j wz)) (fun i _ => L.length - (intOf i).toNat)
      case atStart => exact ⟨0, Nat.zero_le _, rfl, HK0⟩
      case round =>
        obtain ⟨j, hj, rfl, HKJ⟩ := hrel
        by_cases hjl : j < L.length
        · obtain ⟨b1, o1, rfl, hb1, hc1⟩ := (HS.out.ext HKJ.out.cls.ext).get hjl
          have kf := HKJ.out.key.frozen j
          have kl := HKJ.out.key.lt
          have kc := HKJ.out.key.cell hjl
          have k63 : k < 64 := by omega
          have hu := bit_un (nth L j) k
          cases hb : bt (nth L j) k
          all_goals
            rw [hb] at hu
            simp only [b01I, if_true, if_false, Bool.false_eq_true] at hu
            go_wp2_with fail
            go_roundw
            case rel => exact ⟨j + 1, hjl, by go_num, Lib.hid (HKJ.out.put hjl hb)⟩
            case measure => simp [intOf]; omega
        · obtain rfl : j = L.length := by omega
          have hky := HKJ.out.key
          rw [key_full] at hky
          have HKY := Lib.hid hky
          have hgd : goodK (bitsL L k) := by unfold goodK; rw [bitsL_len]; exact hL
          have HGD := Lib.hid hgd
          have hcv := conv_key hky
          have HLK := Lib.hid (HKJ.out.cls.map.look str_keyed Tryd.underlying108 (zero_int wr) encK_inj key_str (bitsL L k) hgd)
          clear hky hgd
          have HNM := Lib.hid HKJ.out.nm
          have HCK := Lib.hid HKJ.out.cls
          cases hcf : clsF L k (bitsL L k) with
          | none =>
            have HCF := Lib.hid hcf
            have HIN := Lib.hid (HKJ.out.cls.map.ins str_keyed Tryd.underlying108 key_str encK_inj (bitsL L k) HGD.out hcf (k : Int))
            rw [hcf] at HLK
            clear hcf HKJ
            go_wp2_with (first | (at_lookup; refine wpList_look_on _ rfl _ _ _ rfl _ rfl _ rfl _ HLK.out ?_) | (at_mapUpdate; refine wpList_upd_on _ rfl _ _ _ 108 rfl _ rfl _ rfl _ rfl _ HIN.out ?_; intro W4 hW4; obtain ⟨hm4, hg4⟩ := hW4; rw [clsF_new HCF.out] at hm4; have hcv4 := conv_key (HKY.out.grown hg4 HNM.out); have HL4 := Lib.hid (look_low hm4 HGD.out); have of4 := (HCK.out.out.grown hg4 (Ne.symm HCK.out.ne)).frozen k; have ol4 := (HCK.out.out.grown hg4 (Ne.symm HCK.out.ne)).lt; have oc4 := (HCK.out.out.grown hg4 (Ne.symm HCK.out.ne)).cell hlt; have HST := Lib.hid (HCK.out.step hm4 hg4 hlt); clear hm4 hg4) | (at_lookup; refine wpList_look_on0 _ rfl _ _ _ rfl _ rfl _ rfl _ HL4.out ?_))
            go_roundw
            case rel => exact ⟨k + 1, hlt, by go_num, HST⟩
            case measure => simp [intOf]; omega
          | some x =>
            have hmk := HKJ.out.cls.map
            rw [clsF_old (by rw [hcf]; simp)] at hmk
            rw [hcf] at HLK
            have HL4 := Lib.hid (look_low hmk HGD.out)
            have of4 := HCK.out.out.frozen k
            have ol4 := HCK.out.out.lt
            have oc4 := HCK.out.out.cell hlt
            have HST := Lib.hid (HCK.out.step hmk ⟨rfl, rfl, rfl, Nat.le_refl _, fun _ _ _ => rfl⟩ hlt)
            clear hcf hmk HKJ
            go_wp2_with (first | (at_lookup; refine wpList_look_on _ rfl _ _ _ rfl _ rfl _ rfl _ HLK.out ?_) | (at_lookup; refine wpList_look_on0 _ rfl _ _ _ rfl _ rfl _ rfl _ HL4.out ?_))
            go_roundw
            case rel => exact ⟨k + 1, hlt, by go_num, HST⟩
            case measure => simp [intOf]; omega
    · obtain rfl : k = N := by omega
      have ho := HC.out.out
      rw [doneL_full] at ho
      have e : (List.range k).map (fun j => ((lowOf L j : Nat) : Int)) = natI (lowL L k) := by simp [natI, lowL]
      rw [e] at ho
      have HO := Lib.hid ho
      have HE := Lib.hid HC.out.ext
      clear ho HC
      go_wp2_with fail
      go_ret
      exact ⟨_, rfl, HO.out, HE.out⟩
end Wt
