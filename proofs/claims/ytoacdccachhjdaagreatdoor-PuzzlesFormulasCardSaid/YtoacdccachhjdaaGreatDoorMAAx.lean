/- Walks: wittingref13.SameSets; Same of equal models (without the reference of the checker). -/
import Derived.Test.YtoacdccachhjdaaGreatDoorMAAl
import Derived.Test.YtoacdccachhjdaaGreatDoorMAAj
import Derived.Deep.QuietTactic
import Derived.BigQuiet
import Derived.Test.YtoacdccachhjdaaGreatDoorMAAv
import Derived.ProofKit
import Derived.Deep.Matrix
import Derived.Deep.Strs
import Derived.Deep.Slices
import Derived.SizedLaws
import Derived.Test.YtoacdccachhjdaaGreatDoorRows
import Derived.LaidMore
import Derived.OpenShut
import Derived.Test.YtoacdccachhjdaaGreatDoorMAAa
import Derived.RangeFuncNested
import Derived.RangeFuncCalls
import Derived.RangeFuncLeaves
import Derived.Test.YtoacdccachhjdaaGreatDoorMAAq
namespace Wt
open Go Go.RowKit Go.Maps Go.Proofs Fm

set_option maxHeartbeats 1000000 in
theorem r13Same_any (a b : Option Addr) (ac bc : Nat) (s t : List (BitVec 64)) (w : World) (ha : RU w a s) (hb : RU w b t) :
    Calls Tryz.prog 57 #[.slice a s.length ac, .slice b t.length bc] w fun e w' => e = .returned (.bool (decide (s = t))) ∧ Qu w w' := by
  have hl := ha.len
  have hl2 := hb.len
  by_cases hlen : s.length = t.length
  · have hL : ((s.length : Int) != (t.length : Int)) = false := by simp [hlen]
    go_enter Tryz.func57, Tryz.ntmps57
    go_wp2
    go_loopw [5] (fun i wr => ∃ k : Nat, k ≤ s.length ∧ i = .int .i64 k ∧ Qu w wr ∧ Hid (∀ j, j < k → nth s j = nth t j)) (fun i _ => s.length - (RowKit.intOf i).toNat)
    case atStart => exact ⟨0, Nat.zero_le _, rfl, Qu.refl _, fun _ h => absurd h (Nat.not_lt_zero _)⟩
    case round =>
      obtain ⟨k, hk, rfl, hE, hno⟩ := hrel
      by_cases hlt : k < s.length
      · obtain ⟨b1, off1, rfl, hb1, hc1⟩ := (ha.ext hE.ext).get hlt
        obtain ⟨b2, off2, rfl, hb2, hc2⟩ := (hb.ext hE.ext).get (k := k) (by omega)
        have hkt : k < t.length := by omega
        have hkI : (k : Int) < (t.length : Int) := by omega
        by_cases hq : nth s k = nth t k
        · have HQ := Lib.hid hq
          rw [hq] at hc1
          have hq2 : (nth t k != nth t k) = false := by simp
          clear hq
          go_wp2_with fail
          go_quiet (fail)
          go_wp2
          go_roundw
          case rel => exact ⟨k + 1, hlt, by go_num, hE.drewN _, fun j hj => by
            rcases Nat.lt_or_ge j k with h | h
            · exact hno.out j h
            · obtain rfl : j = k := by omega
              exact HQ.out⟩
          case measure => simp [RowKit.intOf]; omega
        · have hv : decide (s = t) = false := decide_eq_false fun e => hq (by rw [e])
          have HV := Lib.hid hv
          have hq2 : (nth s k != nth t k) = true := by simp [hq]
          clear hv hq
          go_wp2_with fail
          go_quiet (fail)
          go_wp2
          go_ret
          exact ⟨by rw [HV.out]; rfl, hE.drewN _⟩
      · have hv : decide (s = t) = true := by
          rw [decide_eq_true_eq]
          apply List.ext_getElem hlen
          intro j h1 h2
          have := hno.out j (by omega)
          rwa [nth_eq _ _ h1, nth_eq _ _ h2] at this
        have HV := Lib.hid hv
        clear hv
        go_wp2
        go_ret
        exact ⟨by rw [HV.out]; rfl, hE⟩
  · have hv : decide (s = t) = false := decide_eq_false fun e => hlen (by rw [e])
    have HV := Lib.hid hv
    have hL : ((s.length : Int) != (t.length : Int)) = true := by simp; omega
    clear hv
    go_enter Tryz.func57, Tryz.ntmps57
    go_wp2
    go_ret
    exact ⟨by rw [HV.out]; rfl, Qu.refl _⟩

set_option maxRecDepth 20000 in
set_option maxHeartbeats 2000000 in
theorem sameM_any (M : Mo) (va ra vb rb : Option Addr) (vc rc vd rd : Nat) (w : World) (hm : RM w va ra M) (hn : RM w vb rb M) :
    Calls Tryz.prog 14 #[.agg #[.int .i64 M.worlds, .slice va M.val.length vc, .slice ra M.rel.length rc], .agg #[.int .i64 M.worlds, .slice vb M.val.length vd, .slice rb M.rel.length rd]] w fun e w' => e = .returned (.bool true) ∧ Ext w w' := by
  have hE0 : Ext w ((w.alloc (.cells #[.int .i64 M.worlds, .slice va M.val.length vc, .slice ra M.rel.length rc] 28)).alloc (.cells #[.int .i64 M.worlds, .slice vb M.val.length vd, .slice rb M.rel.length rd] 28)) := ((Ext.refl w).alloc _).alloc _
  have hb1 := (MoBox.new w M.worlds M.val M.rel va vc ra rc 28).ext ((Ext.refl _).alloc (.cells #[.int .i64 M.worlds, .slice vb M.val.length vd, .slice rb M.rel.length rd] 28))
  have hb2 := MoBox.new (w.alloc (.cells #[.int .i64 M.worlds, .slice va M.val.length vc, .slice ra M.rel.length rc] 28)) M.worlds M.val M.rel vb vd rb rd 28
  rw [show (w.alloc (.cells #[.int .i64 M.worlds, .slice va M.val.length vc, .slice ra M.rel.length rc] 28)).heap.size = w.heap.size + 1 by simp] at hb2
  have hm0 := hm.ext hE0
  have hn0 := hn.ext hE0
  have HE := Lib.hid hE0
  have hww : (M.worlds != M.worlds) = false := by simp
  have hrl := hm.rel.len
  clear hm hn hE0
  go_enter Tryz.func14, Tryz.ntmps14
  go_wp2_with fail
  generalize (w.alloc (.cells #[.int .i64 M.worlds, .slice va M.val.length vc, .slice ra M.rel.length rc] 28)).alloc (.cells #[.int .i64 M.worlds, .slice vb M.val.length vd, .slice rb M.rel.length rd] 28) = W0 at *
  obtain ⟨m0, m1, m2⟩ := hb1
  obtain ⟨n0, n1, n2⟩ := hb2
  dsimp only at m0 m1 m2 n0 n1 n2
  refine (r13Same_any va vb vc vd M.val M.val _ hm0.val hn0.val).mono ?_
  rintro _ w1 ⟨rfl, hQ⟩
  rw [decide_eq_true (rfl : M.val = M.val)]
  dsimp only
  have hX1 := hQ.ext
  have p0 := hX1.cell m0
  have p1 := hX1.cell m1
  have p2 := hX1.cell m2
  have q0 := hX1.cell n0
  have q1 := hX1.cell n1
  have q2 := hX1.cell n2
  have hm1 := Lib.hid (hm0.ext hX1)
  have hn1 := Lib.hid (hn0.ext hX1)
  have HX1 := Lib.hid hX1
  clear m0 m1 m2 n0 n1 n2 hQ hX1 hm0 hn0
  go_wp2_with fail
  go_loopw [5] (fun i wr => ∃ k : Nat, k ≤ M.rel.length ∧ i = .int .i64 (k : Int) ∧ Ext w1 wr) (fun i _ => M.rel.length - (RowKit.intOf i).toNat)
  case atStart => exact ⟨0, Nat.zero_le _, rfl, Ext.refl _⟩
  case round =>
    obtain ⟨k, hk, rfl, hE⟩ := hrel
    have m0 := hE.cell p0
    have m1 := hE.cell p1
    have m2 := hE.cell p2
    have n0 := hE.cell q0
    have n1 := hE.cell q1
    have n2 := hE.cell q2
    by_cases hlt : k < M.rel.length
    · obtain ⟨b1, o1, a1, c1, rfl, hb1, hc1, hu1⟩ := (hm1.out.rel.ext hE).get hlt
      obtain ⟨b2, o2, a2, c2, rfl, hb2, hc2, hu2⟩ := (hn1.out.rel.ext hE).get hlt
      have hul := hu1.len
      have HD : Hid (∀ w', Ext wr w' → Calls Tryz.prog 57 #[.slice a1 (nth M.rel k).length c1, .slice a2 (nth M.rel k).length c2] w' fun e w'' => e = .returned (.bool true) ∧ Qu w' w'') := Lib.hid fun w' e => by
        have := r13Same_any a1 a2 c1 c2 (nth M.rel k) (nth M.rel k) w' (hu1.ext e) (hu2.ext e)
        rw [decide_eq_true (rfl : nth M.rel k = nth M.rel k)] at this
        exact this
      have HEr := Lib.hid hE
      clear hu1 hu2 hE p0 p1 p2 q0 q1 q2
      go_wp2_with fail
      go_quiet ((go_at_call 57; exact Calls.quiet_of (HD.out _ ((Ext.refl _).drewN _))))
      go_wp2
      go_roundw
      case rel => exact ⟨k + 1, hlt, by go_num, HEr.out.drewN _⟩
      case measure => simp [RowKit.intOf]; omega
    · have HEr := Lib.hid hE
      clear hE p0 p1 p2 q0 q1 q2
      go_wp2
      go_ret
      exact ⟨rfl, HE.out.trans (HX1.out.trans HEr.out)⟩
end Wt

/- The arguments of a statement, opened: a model, a formula. -/
namespace Wt
open Go Go.ChangeShapes Go.WideShapes Go.ChangeAt Go.RowKit Go.Deep Go.Proofs Fm

theorem spot_of {w : World} {a : Addr} {v : Value} (h : w.cell? a = some v) : a = ⟨a.block, a.off, none⟩ := by
  obtain ⟨b, o, s⟩ := a
  cases s with
  | none => rfl
  | some n =>
    exfalso
    simp only [World.cell?] at h
    split at h <;> simp at h
theorem add_at (b o k : Nat) : (⟨b, o, none⟩ : Addr).add k = ⟨b, o + k, none⟩ := by
  unfold Addr.add
  split
  · rename_i h; subst h; rfl
  · rfl
theorem un_ofInt {n : Int} (h : (Lit.int .u64 n).wf = true) : un (BitVec.ofInt 64 n) = n := by
  simp only [Lit.wf, Bool.and_eq_true, decide_eq_true_eq] at h
  have h1 : (0 : Int) ≤ n := h.1
  have h2 : n ≤ 18446744073709551615 := h.2
  unfold un
  rw [BitVec.toNat_ofInt]
  omega
theorem reach_le : reachBytes ≤ 140737488355328 := by decide
section
variable {H : Type} {enc : TypeId × Value → H} {w : World}
/-- A slice of sets. -/
theorem open_ru {fuel : Nat} {cs : List Value} {x : DataW H × List MemPlace} (h : DataW.trod enc Tryz.prog w 0 (fun _ => true) true fuel 25 cs = some x) (hz : ∀ n ∈ x.1.weights Tryz.prog 25, n ≤ reachBytes) :
    ∃ a l c, cs = [.slice a (l : List (BitVec 64)).length c] ∧ RU w a l := by
  rcases open_ints Tryz.underlying25 Tryz.underlying63 (by kernel_rfl) h with ⟨rfl, _⟩ | ⟨a, len, cap, zs, rfl, _, hl, hc, hzl, hx, hcell, hwf⟩
  · exact ⟨none, [], 0, rfl, RU.nil _ _⟩
  · simp only [if_true] at hzl
    rw [hx] at hz
    have hw := hz ((lits (H := H) .u64 (zs.take len)).length * Tryz.prog.bytesOf 63 + (lits (H := H) .u64 (zs.drop len)).length * Tryz.prog.bytesOf 63) (by
      simp [DataW.weights, Tryz.underlying25, Nat.add_mul])
    have hb : Tryz.prog.bytesOf 63 = 8 := by kernel_rfl
    rw [hb] at hw
    have hll : (lits (H := H) .u64 (zs.take len)).length = len := by simp [lits]; omega
    rw [hll] at hw
    have hr := reach_le
    refine ⟨some a, (zs.take len).map (BitVec.ofInt 64), cap, by simp; omega, ⟨by simp; omega, fun k hk => ?_⟩⟩
    have hk' : k < len := by simp at hk; omega
    have h0 := hcell 0 (by omega)
    have ha := spot_of (by simpa [Addr.add] using h0)
    have hck := hcell k (by omega)
    rw [ha, add_at] at hck
    refine ⟨a.block, a.off, by rw [← ha], ?_⟩
    rw [hck]
    have hzk : zs.getD k 0 = zs[k]'(by omega) := by simp [List.getD, List.getElem?_eq_getElem (show k < zs.length by omega)]
    have hn : nth ((zs.take len).map (BitVec.ofInt 64)) k = BitVec.ofInt 64 (zs[k]'(by omega)) := by
      rw [nth_eq _ _ hk]; simp
    rw [hn, hzk, un_ofInt (hwf _ (List.getElem_mem _))]
theorem mem_weightsAll {P : Program} {e : TypeId} {n : Nat} {d : DataW H} : ∀ {l : List (DataW H)}, d ∈ l → n ∈ d.weights P e → n ∈ DataW.weightsAll P e l
  | d0 :: l, hd, hn => by
    simp only [DataW.weightsAll, List.mem_append]
    rcases List.mem_cons.1 hd with rfl | hd
    · exact .inl hn
    · exact .inr (mem_weightsAll hd hn)
/-- A slice of slices of sets. -/
theorem open_rr {fuel : Nat} {cs : List Value} {x : DataW H × List MemPlace} (h : DataW.trod enc Tryz.prog w 0 (fun _ => true) true fuel 26 cs = some x) (hz : ∀ n ∈ x.1.weights Tryz.prog 26, n ≤ reachBytes) :
    ∃ a l c, cs = [.slice a (l : List (List (BitVec 64))).length c] ∧ RR w a l := by
  rcases open_int_rows Tryz.underlying26 Tryz.underlying25 Tryz.underlying63 (by kernel_rfl) (by kernel_rfl) h with ⟨rfl, _⟩ | ⟨a, len, cap, A, L, C, Z, rfl, _, hl, hc, hx, hrow⟩
  · exact ⟨none, [], 0, rfl, by simp, fun k hk => absurd hk (by simp)⟩
  · rw [hx] at hz
    have hr := reach_le
    have hb : Tryz.prog.bytesOf 25 = 24 := by kernel_rfl
    have hb2 : Tryz.prog.bytesOf 63 = 8 := by kernel_rfl
    have hlen : len ≤ 140737488355328 := by
      have := hz ((len + (cap - len)) * 24) (by simp [DataW.weights, Tryz.underlying26, hb])
      omega
    have hrl : ∀ r, r < len → A r ≠ none → L r ≤ 140737488355328 := by
      intro r hr' hA
      obtain ⟨a', ha'⟩ := Option.ne_none_iff_exists'.1 hA
      have h1 := (hrow r (by omega))
      have hzr := h1.2.2.2.1
      have := hz (((Z r).take (L r)).length * 8 + ((Z r).drop (L r)).length * 8) (by
        simp only [DataW.weights, Tryz.underlying26, List.mem_cons, List.mem_append]
        refine .inr (.inl (mem_weightsAll (d := intRow .u64 (A r) (L r) (Z r)) (List.mem_map.2 ⟨r, by simpa using hr', rfl⟩) ?_))
        rw [ha']
        simp [intRow, DataW.weights, Tryz.underlying25, hb2, lits, Nat.add_mul])
      have h2 := h1.2.1
      simp at this
      omega
    refine ⟨some a, (List.range len).map fun r => ((Z r).take (L r)).map (BitVec.ofInt 64), cap, by simp, ⟨by simpa using hlen, fun k hk => ?_⟩⟩
    have hk' : k < len := by simpa using hk
    obtain ⟨h1, h2, h3, h4, h5, h6, h7⟩ := hrow k (by omega)
    have h0 := (hrow 0 (by omega)).1
    have ha := spot_of (by simpa [Addr.add] using h0)
    rw [ha, add_at] at h1
    have hn : nth ((List.range len).map fun r => ((Z r).take (L r)).map (BitVec.ofInt 64)) k = ((Z k).take (L k)).map (BitVec.ofInt 64) := by
      rw [nth_eq _ _ hk]; simp
    have hll : (((Z k).take (L k)).map (BitVec.ofInt 64)).length = L k := by simp; omega
    refine ⟨a.block, a.off, A k, C k, by rw [← ha], by rw [h1, hn, hll], ?_⟩
    rw [hn]
    cases hA : A k with
    | none =>
      have : L k = 0 := by have := h6 hA; omega
      rw [this]; simp; exact RU.nil _ _
    | some a' =>
      have hlk := hrl k hk' (by rw [hA]; simp)
      refine ⟨by rw [hll]; exact hlk, fun q hq => ?_⟩
      rw [hll] at hq
      obtain ⟨_, hcell⟩ := h7 a' hA
      have hb' := spot_of (by simpa [Addr.add] using hcell 0 (by omega))
      have hcq := hcell q (by omega)
      rw [hb', add_at] at hcq
      refine ⟨a'.block, a'.off, by rw [← hb'], ?_⟩
      rw [hcq]
      have hzq : (Z k).getD q 0 = (Z k)[q]'(by omega) := by simp [List.getD, List.getElem?_eq_getElem (show q < (Z k).length by omega)]
      have hnq : nth (((Z k).take (L k)).map (BitVec.ofInt 64)) q = BitVec.ofInt 64 ((Z k)[q]'(by omega)) := by
        rw [nth_eq _ _ (by rw [hll]; exact hq)]; simp
      rw [hnq, hzq, un_ofInt (h5 _ (List.getElem_mem _))]
/-- A node. -/
theorem open_nd {fuel : Nat} {cs : List Value} {x : DataW H × List MemPlace} (h : DataW.trod enc Tryz.prog w 0 (fun _ => true) true fuel 109 cs = some x) : ∃ n : Nd, cs = ndCells n := by
  have hc6 : Tryz.prog.cellsOf 109 = 6 := by kernel_rfl
  have hc1 : Tryz.prog.cellsOf 3 = 1 := by kernel_rfl
  obtain ⟨xs, n, _, _, hl, hxl, hf⟩ := DataW.trod_struct Tryz.underlying109 h
  rw [hc6] at hl
  have key : ∀ i, i < 6 → ∀ f : Field, f.type = 3 → f.offset = i → DataW.trod enc Tryz.prog w 0 (fun _ => true) true n f.type ((cs.drop f.offset).take (Tryz.prog.cellsOf f.type)) = xs[i]? → i < xs.length → ∃ v : Int, cs[i]? = some (.int .i64 v) := by
    intro i hi f ft fo h hx
    rw [ft, fo, hc1] at h
    have hx2 : xs[i]? = some (xs[i]'hx) := List.getElem?_eq_getElem hx
    rw [hx2] at h
    obtain ⟨v, hv, _, _⟩ := DataW.trod_int Tryz.underlying3 h
    refine ⟨v, ?_⟩
    have := congrArg (fun l => l[0]?) hv
    simpa [List.getElem?_take] using this
  have hx6 : xs.length = 6 := hxl
  obtain ⟨v0, e0⟩ := key 0 (by omega) _ rfl rfl (hf 0 _ rfl) (by omega)
  obtain ⟨v1, e1⟩ := key 1 (by omega) _ rfl rfl (hf 1 _ rfl) (by omega)
  obtain ⟨v2, e2⟩ := key 2 (by omega) _ rfl rfl (hf 2 _ rfl) (by omega)
  obtain ⟨v3, e3⟩ := key 3 (by omega) _ rfl rfl (hf 3 _ rfl) (by omega)
  obtain ⟨v4, e4⟩ := key 4 (by omega) _ rfl rfl (hf 4 _ rfl) (by omega)
  obtain ⟨v5, e5⟩ := key 5 (by omega) _ rfl rfl (hf 5 _ rfl) (by omega)
  refine ⟨⟨v0, v1, v2, v3, v4, v5⟩, List.ext_getElem? fun i => ?_⟩
  rcases Nat.lt_or_ge i 6 with hi | hi
  · rcases (show i = 0 ∨ i = 1 ∨ i = 2 ∨ i = 3 ∨ i = 4 ∨ i = 5 by omega) with rfl | rfl | rfl | rfl | rfl | rfl
    · rw [e0]; rfl
    · rw [e1]; rfl
    · rw [e2]; rfl
    · rw [e3]; rfl
    · rw [e4]; rfl
    · rw [e5]; rfl
  · rw [List.getElem?_eq_none (by omega), List.getElem?_eq_none (by simp [ndCells]; omega)]
/-- A formula. -/
theorem open_rn {fuel : Nat} {cs : List Value} {x : DataW H × List MemPlace} (h : DataW.trod enc Tryz.prog w 0 (fun _ => true) true fuel 44 cs = some x) (hz : ∀ n ∈ x.1.weights Tryz.prog 44, n ≤ reachBytes) :
    ∃ a l c, cs = [.slice a (l : List Nd).length c] ∧ RN w a l := by
  have hc6 : Tryz.prog.cellsOf 109 = 6 := by kernel_rfl
  rcases open_slice Tryz.underlying44 h with ⟨rfl, _⟩ | ⟨a, len, cap, m, n, D, Pl, rfl, _, hl, hc, hm, hx, hel⟩
  · exact ⟨none, [], 0, rfl, RN.nil _ _⟩
  · simp only [if_true] at hm
    rw [hx] at hz
    have hr := reach_le
    have hb : Tryz.prog.bytesOf 109 = 48 := by kernel_rfl
    have hlen : len ≤ 140737488355328 := by
      have := hz ((len + (m - len)) * 48) (by simp [DataW.weights, Tryz.underlying44, hb])
      omega
    have hnd : ∀ i, i < len → ∃ nd : Nd, ∀ j, j < 6 → w.cell? (a.add (i * 6 + j)) = (ndCells nd)[j]? := by
      intro i hi
      obtain ⟨cs', h1, h2⟩ := hel i (by omega)
      rw [hc6] at h1
      obtain ⟨nd, rfl⟩ := open_nd h2
      obtain ⟨_, _, h3⟩ := World.cells?_some h1
      refine ⟨nd, fun j hj => ?_⟩
      have h4 := h3 j hj
      have ha : ∀ (p q : Nat), (a.add p).add q = a.add (p + q) := by
        intro p q
        unfold Addr.add
        by_cases hp : p = 0 <;> by_cases hq : q = 0 <;> simp [hp, hq, Nat.add_assoc]
      rw [ha] at h4
      exact h4
    obtain ⟨g, hg⟩ : ∃ g : Nat → Nd, ∀ i, i < len → ∀ j, j < 6 → w.cell? (a.add (i * 6 + j)) = (ndCells (g i))[j]? := by
      refine ⟨fun i => if h : i < len then Classical.choose (hnd i h) else default, fun i hi => ?_⟩
      simp only [hi, dif_pos]
      exact Classical.choose_spec (hnd i hi)
    refine ⟨some a, (List.range len).map g, cap, by simp, ⟨by simpa using hlen, fun k hk => ?_⟩⟩
    have hk' : k < len := by simpa using hk
    have h0 := hg 0 (by omega) 0 (by omega)
    have ha := spot_of (v := .int .i64 (g 0).op) (by simpa [Addr.add, ndCells] using h0)
    have hn : nth ((List.range len).map g) k = g k := by rw [nth_eq _ _ hk]; simp
    rw [hn]
    have hgk := hg k hk'
    rw [ha] at hgk
    simp only [add_at] at hgk
    refine ⟨a.block, a.off, by rw [← ha], ?_, ?_, ?_, ?_, ?_, ?_⟩
    · exact hgk 0 (by omega)
    · rw [Nat.add_assoc]; exact hgk 1 (by omega)
    · rw [Nat.add_assoc]; exact hgk 2 (by omega)
    · rw [Nat.add_assoc]; exact hgk 3 (by omega)
    · rw [Nat.add_assoc]; exact hgk 4 (by omega)
    · rw [Nat.add_assoc]; exact hgk 5 (by omega)
set_option maxRecDepth 100000 in
/-- A model, as an argument. -/
theorem open_mo {t : Nat} {v : Value} {d : DataW H} {p : List MemPlace} {r : Reach} {b0 : Nat} (ht : t = 28) (hval : Value.okWide Tryz.prog w r b0 t v) (h : DataW.Trod enc Tryz.prog w 0 (fun _ => true) true t v d p) (hz : ∀ n ∈ d.weights Tryz.prog t, n ≤ reachBytes) :
    ∃ M va ra vc rc, v = .agg #[.int .i64 M.worlds, .slice va M.val.length vc, .slice ra M.rel.length rc] ∧ RM w va ra M := by
  subst ht
  have hc0 : Tryz.prog.cellsOf 3 = 1 := by kernel_rfl
  have hc1 : Tryz.prog.cellsOf 25 = 1 := by kernel_rfl
  have hc2 : Tryz.prog.cellsOf 26 = 1 := by kernel_rfl
  have hc3 : Tryz.prog.cellsOf 28 = 3 := by kernel_rfl
  obtain ⟨cs, rfl, hcs⟩ := okWide_struct Tryz.underlying28 hval
  obtain ⟨fuel, h⟩ := h
  obtain ⟨y0, y1, y2, n, hx, hl, u0, u1, u2⟩ := trod_struct3 Tryz.underlying28 h
  simp only [Prod.mk.injEq] at hx
  obtain ⟨rfl, rfl⟩ := hx
  rw [hc3] at hl
  simp only [hc0, hc1, hc2] at u0 u1 u2
  obtain ⟨i, hi, _, _⟩ := DataW.trod_int Tryz.underlying3 u0
  have hzs : ∀ n ∈ DataW.weightsEach Tryz.prog [3, 25, 26] [y0.1, y1.1, y2.1], n ≤ reachBytes := by
    intro n hn
    refine hz n ?_
    simp only [DataW.weights, Tryz.underlying28]
    exact hn
  obtain ⟨va, V, vc, hv, hV⟩ := open_ru u1 (fun n hn => hzs n (DataW.weights_mem_each (j := 1) rfl rfl n hn))
  obtain ⟨ra, R, rc, hr, hR⟩ := open_rr u2 (fun n hn => hzs n (DataW.weights_mem_each (j := 2) rfl rfl n hn))
  refine ⟨⟨i, V, R⟩, va, ra, vc, rc, ?_, ⟨hV, hR⟩⟩
  have hcl : (Value.agg cs).cells.toList = [.int .i64 i, .slice va V.length vc, .slice ra R.length rc] := by
    generalize (Value.agg cs).cells.toList = L at hl hi hv hr
    match L, hl with
    | [a, b, c], _ =>
      simp at hi hv hr
      rw [hi, hv, hr]
  have e2 : cs.toList = [.int .i64 i, .slice va V.length vc, .slice ra R.length rc] := hcl
  have e3 : cs = #[.int .i64 i, .slice va V.length vc, .slice ra R.length rc] := by
    apply Array.ext'
    rw [e2]
  rw [e3]
end
end Wt

/- What the row's condition on the library's table gives the walks; a slice of numbers among the arguments, opened. -/
namespace Go.Proofs.YtoacdccachhjdaaGreatDoor
open Go.ChangeShapes Go.WideShapes Go.ChangeAt Go.RowKit

theorem gTab : Tryz.prog.globalNamed "math/bits.deBruijn64tab" = some 0 := by kernel_rfl
theorem tTab : (Tryz.prog.globals[0]?).map (·.type) = some 182 := by kernel_rfl
theorem tabD : (Rows.laid_math_bits_deBruijn64tab : DataW Unit) = .agg (Lib.deBruijn64tab.map fun n : Nat => .lit (.int .u8 (n : Int))) := by
  unfold Rows.laid_math_bits_deBruijn64tab Lib.deBruijn64tab
  rfl
set_option maxRecDepth 100000 in
theorem tab_of {W : World} {fuel : Nat} {cs : List Value} {q : List MemPlace} {d : DataW Unit} {encU : TypeId × Value → Unit} {base : Nat} {sp : Nat → Bool} {held : Bool} (hd : d = .agg (Lib.deBruijn64tab.map fun n : Nat => .lit (.int .u8 (n : Int))))
    (h : DataW.trod encU Tryz.prog W base sp held fuel 182 cs = some (d, q)) : ∀ j, j < Lib.deBruijn64tab.length → cs[j]? = some (.int .u8 ((Lib.deBruijn64tab.getD j 0 : Nat) : Int)) := by
  intro j hj
  obtain ⟨xs, m1, rfl, hx1, hlen, hn, hel⟩ := DataW.trod_array Tryz.underlying182 h
  have c5 : Tryz.prog.cellsOf 5 = 1 := by kernel_rfl
  have hl64 : Lib.deBruijn64tab.length = 64 := by decide
  have hj64 : j < 64 := by omega
  have h0 := hel j (by omega)
  have hxj : j < xs.length := by omega
  rw [List.getElem?_eq_getElem hxj, c5, Nat.mul_one] at h0
  simp only [Prod.mk.injEq] at hx1
  obtain ⟨hx1, _⟩ := hx1
  rw [hd] at hx1
  simp only [DataW.agg.injEq] at hx1
  have e1 : (xs[j]).1 = .lit (.int .u8 ((Lib.deBruijn64tab.getD j 0 : Nat) : Int)) := by
    have e2 : (xs.map (·.1))[j]? = (Lib.deBruijn64tab.map fun n : Nat => (DataW.lit (.int .u8 (n : Int)) : DataW Unit))[j]? := by rw [hx1]
    rw [List.getElem?_map, List.getElem?_map, List.getElem?_eq_getElem hxj, List.getElem?_eq_getElem hj] at e2
    simp only [Option.map_some, Option.some.injEq] at e2
    rw [e2, List.getD_eq_getElem?_getD, List.getElem?_eq_getElem hj]
    rfl
  obtain ⟨k, k1, k2, _⟩ := DataW.trod_int Tryz.underlying5 h0
  rw [k2] at e1
  simp only [DataW.lit.injEq, Lit.int.injEq, true_and] at e1
  subst e1
  have k3 := congrArg (fun l => l[0]?) k1
  simp only [List.getElem?_take, List.getElem?_drop] at k3
  simpa using k3
theorem of_laid {W : World} (h : laidMetH Tryz.prog [("math/bits.deBruijn64tab", Rows.laid_math_bits_deBruijn64tab)] W) : Wt.Tab W := by
  rw [MakeChecks.laidMetH_plain _ _ _ (by kernel_rfl)] at h
  obtain ⟨ps, ⟨g0, t0, cs0, f0, p0, q0, hg0, ht0, hv0, hd0, _⟩, _⟩ := h
  obtain rfl := Option.some.inj (gTab.symm.trans hg0)
  obtain rfl := Option.some.inj (tTab.symm.trans ht0)
  intro j hj
  have hc := tab_of tabD hd0 j hj
  have := World.var?_cell hg0 hv0 j
  rw [← Array.getElem?_toList, hc] at this
  simpa using this
end Go.Proofs.YtoacdccachhjdaaGreatDoor
namespace Wt
open Go Go.ChangeShapes Go.WideShapes Go.ChangeAt Go.RowKit Go.Deep Go.Proofs Fm
section
variable {H : Type} {enc : TypeId × Value → H} {w : World}
/-- A slice of numbers. -/
theorem open_ri {fuel : Nat} {cs : List Value} {x : DataW H × List MemPlace} (h : DataW.trod enc Tryz.prog w 0 (fun _ => true) true fuel 22 cs = some x) (hz : ∀ n ∈ x.1.weights Tryz.prog 22, n ≤ reachBytes) :
    ∃ a l c, cs = [.slice a (l : List Int).length c] ∧ RI w a l := by
  rcases open_ints Tryz.underlying22 Tryz.underlying3 (by kernel_rfl) h with ⟨rfl, _⟩ | ⟨a, len, cap, zs, rfl, _, hl, hc, hzl, hx, hcell, hwf⟩
  · exact ⟨none, [], 0, rfl, RI.nil _ _⟩
  · simp only [if_true] at hzl
    rw [hx] at hz
    have hw := hz ((lits (H := H) .i64 (zs.take len)).length * Tryz.prog.bytesOf 3 + (lits (H := H) .i64 (zs.drop len)).length * Tryz.prog.bytesOf 3) (by
      simp [DataW.weights, Tryz.underlying22, Nat.add_mul])
    have hb : Tryz.prog.bytesOf 3 = 8 := by kernel_rfl
    rw [hb] at hw
    have hll : (lits (H := H) .i64 (zs.take len)).length = len := by simp [lits]; omega
    rw [hll] at hw
    have hr := reach_le
    refine ⟨some a, zs.take len, cap, by simp; omega, ⟨by simp; omega, fun k hk => ?_⟩⟩
    have hk' : k < len := by simp at hk; omega
    have h0 := hcell 0 (by omega)
    have ha := spot_of (by simpa [Addr.add] using h0)
    have hck := hcell k (by omega)
    rw [ha, add_at] at hck
    refine ⟨a.block, a.off, by rw [← ha], ?_⟩
    rw [hck]
    have hzk : zs.getD k 0 = zs[k]'(by omega) := by simp [List.getD, List.getElem?_eq_getElem (show k < zs.length by omega)]
    have hn : nth (zs.take len) k = zs[k]'(by omega) := by
      rw [nth_eq _ _ hk]; simp
    rw [hn, hzk]
end
end Wt

/- Walks: slices.IndexFunc and ContainsFunc over rows, for a function of any captures. -/
namespace Wt
open Go Go.RowKit Go.Maps Go.Proofs Fm

set_option maxHeartbeats 1000000 in
theorem indexFunc_g (F : Nat) (caps : List Value) (p : List (BitVec 64) → Bool) (a : Option Addr) (l : List (List (BitVec 64))) (cap : Nat) (w : World) (hr : RR w a l)
    (hF : ∀ args W, (callFunc F args).run Tryz.prog W = .ok (.enter F args) W)
    (hp : ∀ W a s c', Ext w W → RU W a s → Calls Tryz.prog F (.slice a s.length c' :: caps).toArray W fun e w' => e = .returned (.bool (p s)) ∧ Ext W w') :
    Calls Tryz.prog 139 #[.slice a l.length cap, .func (.func F) #[] caps.toArray] w fun e w' => (∃ i : Int, e = .returned (.int .i64 i) ∧ decide (0 ≤ i) = l.any p) ∧ Ext w w' := by
  have hl := hr.len
  have Hp := Lib.hid hp
  clear hp
  go_enter Tryz.func139, Tryz.ntmps139
  go_wp2
  go_loopw [8] (fun i wr => ∃ k : Nat, k ≤ l.length ∧ i = .int .i64 k ∧ Ext w wr ∧ Hid (∀ j, j < k → p (nth l j) = false)) (fun i _ => l.length - (RowKit.intOf i).toNat)
  case atStart => exact ⟨0, Nat.zero_le _, rfl, Ext.refl _, fun _ h => absurd h (Nat.not_lt_zero _)⟩
  case round =>
    obtain ⟨k, hk, rfl, hE, hno⟩ := hrel
    by_cases hlt : k < l.length
    · obtain ⟨b, off, a', c', rfl, hc, hu⟩ := (hr.ext hE).at_ k hlt
      go_wp2_with fail
      refine (Hp.out _ _ _ _ hE hu).mono ?_
      rintro e w1 ⟨rfl, hE1⟩
      cases hb : p (nth l k)
      all_goals have Hb := Lib.hid hb; clear hb
      · go_wp2
        go_roundw
        case rel => exact ⟨k + 1, hlt, by go_num, hE.trans hE1, lt_step hno Hb.out⟩
        case measure => simp [RowKit.intOf]; omega
      · go_wp2
        go_ret
        exact ⟨⟨k, rfl, by rw [any_yes hlt Hb.out]; simp⟩, hE.trans hE1⟩
    · go_wp2
      go_ret
      exact ⟨⟨-1, rfl, by rw [any_no (fun j hj => hno j (by omega))]; rfl⟩, hE⟩
set_option maxHeartbeats 1000000 in
theorem containsFunc_g (F : Nat) (caps : List Value) (p : List (BitVec 64) → Bool) (a : Option Addr) (l : List (List (BitVec 64))) (cap : Nat) (w : World) (hr : RR w a l)
    (hF : ∀ args W, (callFunc F args).run Tryz.prog W = .ok (.enter F args) W)
    (hp : ∀ W a s c', Ext w W → RU W a s → Calls Tryz.prog F (.slice a s.length c' :: caps).toArray W fun e w' => e = .returned (.bool (p s)) ∧ Ext W w') :
    Calls Tryz.prog 96 #[.slice a l.length cap, .func (.func F) #[] caps.toArray] w fun e w' => e = .returned (.bool (l.any p)) ∧ Ext w w' := by
  have Hi := Lib.hid (indexFunc_g F caps p a l cap w hr hF hp)
  clear hF hp
  go_enter Tryz.func96, Tryz.ntmps96
  go_wp2_with (go_at_call 139; refine (Hi.out).mono ?_; rintro e w1 ⟨⟨i, rfl, hi⟩, hE⟩; have HI := Lib.hid hi; clear hi)
  go_ret
  exact ⟨by rw [← HI.out]; simp, hE⟩
end Wt

/- A range over an iterator that keeps its own state in a cell: the law of the statement. -/
namespace Wt
open Go Go.RowKit Go.Maps Go.Proofs

section
variable {F : Fence} {n : Nat} {P : Program}
/-- The iterator's contract: it hands on the numbers one by one; its own state lies in block b. -/
def PtsAt (F : Fence) (n : Nat) (P : Program) (g b : Nat) (xs : List Nat) (st : Nat → Value) : Prop :=
  ∀ (l : Nat) (J : Nat → World → Prop) (W : World),
    (∀ k A v, J k A → J k (A.setCell ⟨b, 0, none⟩ v)) → (∀ k A, J k A → J k A.drew) → (∀ k A, J k A → Tab A) →
    (∀ k A, k < xs.length → J k A → A.cell? ⟨b, 0, none⟩ = some (st k) → A.frozen? ⟨b, 0, none⟩ = false → YieldAt F (n - 1) P l #[.int .i64 ((nth xs k : Nat) : Int)] A fun e A' => e = .returned (.bool true) ∧ J (k + 1) A' ∧ A'.cell? ⟨b, 0, none⟩ = A.cell? ⟨b, 0, none⟩ ∧ A'.frozen? ⟨b, 0, none⟩ = A.frozen? ⟨b, 0, none⟩) →
    J 0 W → W.cell? ⟨b, 0, none⟩ = some (st 0) → W.frozen? ⟨b, 0, none⟩ = false →
    CallsIn F n P g #[.func (.yield l) #[] #[], .pointer (some ⟨b, 0, none⟩)] W fun e W' => (∃ v, e = .returned v) ∧ J xs.length W'
/-- How a round ends. -/
def ptsPost (I : Nat → World → Prop) (b k : Nat) (W : World) : Exit → Act → World → Prop
  | .normal, _, W' => KeepsOthers W W' ∧ I (k + 1) W' ∧ W'.cell? ⟨b, 0, none⟩ = W.cell? ⟨b, 0, none⟩ ∧ W'.frozen? ⟨b, 0, none⟩ = W.frozen? ⟨b, 0, none⟩
  | _, _, _ => False
theorem putObj_cell {W : World} {l b : Nat} (o : Obj) (h : b ≠ l) : (W.putObj l o).cell? ⟨b, 0, none⟩ = W.cell? ⟨b, 0, none⟩ ∧ (W.putObj l o).frozen? ⟨b, 0, none⟩ = W.frozen? ⟨b, 0, none⟩ :=
  ⟨World.cell?_of_block (World.putObj_heap_other h), World.frozen?_of_block (World.putObj_heap_other h)⟩
theorem wpIn_rangeFunc_pts {g : Operand} {ps : Array Tmp} {assign body : Code} {Q : Exit → Act → World → Prop} {a : Act} {w : World}
    (hro : F.round = none) (h1 : 1 ≤ n) {gf b : Nat} (hg : a.eval g = .func (.func gf) #[] #[.pointer (some ⟨b, 0, none⟩)]) (hFg : F.fn gf) (eg : ∀ args w, (callFunc gf args).run P w = .ok (.enter gf args) w)
    {xs : List Nat} {st : Nat → Value} (hseq : PtsAt F (n - 1) P gf b xs st) (hps : ps.size = 1)
    (hb0 : w.cell? ⟨b, 0, none⟩ = some (st 0)) (hbf : w.frozen? ⟨b, 0, none⟩ = false)
    (I : Nat → World → Prop) (hI : OwnFrom w.heap.size I) (hIb : ∀ k A v, I k A → I k (A.setCell ⟨b, 0, none⟩ v)) (hId : ∀ k A, I k A → I k A.drew) (hIT : ∀ k A, I k A → Tab A) (h0 : I 0 w) (a₁ : Nat → Act)
    (hassign : ∀ (l k : Nat) (W : World) (K : Act → World → Prop), K (a₁ (nth xs k)) W →
      assign.wpIn (F.inRound l) (n - 1 - 1) P (Exit.then K (fun _ _ _ => False)) { tmps := (ps.zip #[.int .i64 ((nth xs k : Nat) : Int)]).foldl (fun t (p, v) => t.setIfInBounds p v) a.tmps, defers := [] } W)
    (hbody : ∀ (l k : Nat) (W : World), k < xs.length → I k W → body.wpIn (F.inRound l) (n - 1 - 1) P (ptsPost I b k W) (a₁ (nth xs k)) W)
    (hdone : ∀ (D : Nat) (W : World), w.heap.size ≤ D → I xs.length W → W.heap[D]? = some (.deferred (some [])) → Q .normal { a with defers := { target := .collected D, args := #[] } :: a.defers } W) :
    (Code.rangeFunc g ps assign body).wpIn F n P Q a w := by
  have hbl : b < w.heap.size := World.block_lt_of_cell? _ _ hb0
  refine wpIn_rangeFunc ?_
  intro fn hfn
  rw [hro]
  obtain ⟨rec, hrec⟩ : ∃ rec : LoopState → Option Code → Loop, rec = fun st pe => { state := st, pending := pe, fn, tmps := a.tmps, params := ps, assign, body, defers := w.heap.size } := ⟨_, rfl⟩
  obtain ⟨W1, hW1⟩ : ∃ W1, (w.alloc (.deferred (some []))).alloc (.loop (rec .ready none)) = W1 := ⟨_, rfl⟩
  have hL1 : W1.heap[w.heap.size + 1]? = some (.loop (rec .ready none)) := by
    rw [← hW1]; have := World.alloc_heap_new (w.alloc (.deferred (some []))) (.loop (rec .ready none)); rwa [World.size_alloc] at this
  have hK1 : W1.heap[w.heap.size]? = some (.deferred (some [])) := by
    rw [← hW1]; exact (Below.heap_alloc _ _ _ (by simp)).trans (World.alloc_heap_new w _)
  have hI1 : I 0 W1 := by rw [← hW1]; exact hI.alloc _ (hI.alloc _ h0)
  have hold : W1.heap[b]? = w.heap[b]? := by
    rw [← hW1]; exact (Below.heap_alloc _ _ b (by simp; omega)).trans (Below.heap_alloc _ _ b hbl)
  refine ⟨w.heap.size + 1, [{ target := .collected w.heap.size, args := #[] }], W1, { target := .fn (.func gf) #[.pointer (some ⟨b, 0, none⟩)], args := #[.func (.yield (w.heap.size + 1)) #[] #[]] }, W1, gf,
    #[.func (.yield (w.heap.size + 1)) #[] #[]] ++ #[.pointer (some ⟨b, 0, none⟩)], W1, ?_, ?_, ?_, ?_, fun _ => h1, ?_⟩
  · rw [← hW1, hrec]; exact run_enterLoop_outer _ _ _ _ _
  · simp only [resolve, hg]
    simp [go_sem]
  · intro f' hf'; simp [Target.leads] at hf'; subst hf'; exact hFg
  · simp [invoke, go_sem, eg]
  · refine (hseq (w.heap.size + 1)
      (fun k W => I k W ∧ W.heap[w.heap.size + 1]? = some (.loop (rec .ready none)) ∧ W.heap[w.heap.size]? = some (.deferred (some [])))
      W1
      (fun k A v h => ⟨hIb k A v h.1, (Below.heap_setCell A ⟨b, 0, none⟩ v _ (by show w.heap.size + 1 ≠ b; omega)).trans h.2.1, (Below.heap_setCell A ⟨b, 0, none⟩ v _ (by show w.heap.size ≠ b; omega)).trans h.2.2⟩)
      (fun k A h => ⟨hId k A h.1, h.2.1, h.2.2⟩)
      (fun k A h => hIT k A h.1)
      ?_ ⟨hI1, hL1, hK1⟩ ((World.cell?_of_block hold).trans hb0) ((World.frozen?_of_block hold).trans hbf)).mono ?_
    · rintro k W hk ⟨hi, hl, hkd⟩ hbc hbz
      have hlt : w.heap.size + 1 < W.heap.size := (Array.getElem?_eq_some_iff.1 hl).1
      have hy := run_yield (P := P) (args := #[.int .i64 ((nth xs k : Nat) : Int)]) hl (by rw [hrec]; exact hps.symm)
      rw [hrec] at hy
      refine ⟨fn, _, assign, body, hy, roundIn_of_wpIn hfn (hassign _ k W _ ⟨_, run_beginRound hl (by rw [hrec]), ?_⟩)⟩
      have hl2 : (W.putObj (w.heap.size + 1) (.loop { rec .ready none with state := .busy })).heap[w.heap.size + 1]? = some (.loop { rec .ready none with state := .busy }) := World.putObj_heap_same hlt
      have hk2 : (W.putObj (w.heap.size + 1) (.loop { rec .ready none with state := .busy })).heap[w.heap.size]? = some (.deferred (some [])) := (World.putObj_heap_other (by omega)).trans hkd
      refine wpIn_mono (hbody _ k _ hk (hI.putObj _ hi (by omega) hl rfl)) ?_
      rintro e a3 W3 hp
      cases e with
      | normal =>
        obtain ⟨hk3, hi3, hc3, hf3⟩ := hp
        have hl3 := hk3.same _ _ hl2 rfl
        have hr := run_endRound (P := P) none hl3
        obtain ⟨c1, f1⟩ := putObj_cell (W := W) (l := w.heap.size + 1) (b := b) (.loop { rec .ready none with state := .busy }) (by omega)
        rw [hrec] at hr
        refine ⟨_, _, hr, rfl, ⟨hI.putObj _ hi3 (by omega) hl3 rfl, ?_, (World.putObj_heap_other (by omega)).trans (hk3.same _ _ hk2 rfl)⟩, ?_, ?_⟩
        · rw [hrec]; exact World.putObj_heap_same (Array.getElem?_eq_some_iff.1 hl3).1
        · exact ((putObj_cell _ (by omega)).1.trans hc3).trans c1
        · exact ((putObj_cell _ (by omega)).2.trans hf3).trans f1
      | ret => exact hp.elim
      | exit id => exact hp.elim
      | goto t => exact hp.elim
      | panic ch => exact hp.elim
      | outgrown => exact hp.elim
    · rintro e W2 ⟨⟨v, rfl⟩, hi, hl, hk⟩
      exact ⟨none, _, by have := run_endLoop (P := P) hl (by rw [hrec]; simp); rw [hrec] at this; exact this, hdone _ _ (Nat.le_refl _) (hI.putObj _ hi (by omega) hl rfl) ((World.putObj_heap_other (by omega)).trans hk)⟩
end
end Wt

/- Plain: the smallest, the largest and the transitive filtration. -/
namespace Wt
open Go Go.RowKit Go.Proofs Fm

/-- Some world of the one class has a successor in the other. -/
def relS (M : Mo) (L : List (BitVec 64)) (N a x y : Nat) : Bool := (List.range N).any fun w => (List.range N).any fun u => lowOf L w == x && lowOf L u == y && bt (nth (nth M.rel a) w) u
theorem relS_iff {M : Mo} {L : List (BitVec 64)} {N a x y : Nat} : relS M L N a x y = true ↔ ∃ w u, w < N ∧ u < N ∧ lowOf L w = x ∧ lowOf L u = y ∧ bt (nth (nth M.rel a) w) u = true := by
  unfold relS
  simp only [List.any_eq_true, List.mem_range, Bool.and_eq_true, beq_iff_eq]
  constructor
  · rintro ⟨w, hw, u, hu, ⟨h1, h2⟩, h3⟩; exact ⟨w, u, hw, hu, h1, h2, h3⟩
  · rintro ⟨w, u, hw, hu, h1, h2, h3⟩; exact ⟨w, hw, u, hu, ⟨h1, h2⟩, h3⟩
/-- Does a node permit a step? -/
def perN (L : List (BitVec 64)) (n : Nd) (i a x y : Nat) (keep : Bool) : Bool :=
  !(n.i == (a : Int)) || (!(n.op == 9 && (bt (nth L i) x && (!bt (nth L n.x.toNat) y || (keep && !bt (nth L i) y)))) && !(n.op == 10 && (!bt (nth L i) x && (bt (nth L n.x.toNat) y || (keep && bt (nth L i) y)))))
def permL (L : List (BitVec 64)) (c : List Nd) (keep : Bool) (a x y : Nat) : Bool := (List.range c.length).all fun i => perN L (nth c i) i a x y keep
/-- A node of the canonical list about what an agent knows. -/
theorem node_box {t x : Fm} {o : Int} (ho : o = 9 ∨ o = 10) {a : Nat} (ht : fok t) (h : sbt (.un o (a : Int) 0 0 x) t) : ∃ k, k < (canon t).length ∧ (nth (canon t) k).op = o ∧ (nth (canon t) k).i = (a : Int) ∧ (nth (canon t) k).x.toNat < (canon t).length ∧ trAt (canon t) (nth (canon t) k).x.toNat = x ∧ trAt (canon t) k = .un o (a : Int) 0 0 x := by
  obtain ⟨k, hk, e⟩ := sbt_at ht h
  have hw := canon_wf t ht
  have hop : (nth (canon t) k).op = o := by rw [← trAt_op, e]; rfl
  have hx : (useOf (nth (canon t) k).op).1.x = true := by rw [hop]; rcases ho with rfl | rfl <;> rfl
  have hy : (useOf (nth (canon t) k).op).1.y = false := by rw [hop]; rcases ho with rfl | rfl <;> rfl
  have h2 := trAt_un hw hk hx hy
  rw [e] at h2
  injection h2 with e1 e2 e3 e4 e5
  obtain ⟨h0, h1⟩ := hw.x_lt hk hx
  exact ⟨k, hk, hop, e2.symm, by omega, e5.symm, e⟩
/-- And back: what such a node is. -/
theorem node_un {t : Fm} (ht : fok t) {k : Nat} (hk : k < (canon t).length) (ho : (nth (canon t) k).op = 9 ∨ (nth (canon t) k).op = 10) : (nth (canon t) k).x.toNat < (canon t).length ∧ trAt (canon t) k = .un (nth (canon t) k).op (nth (canon t) k).i 0 0 (trAt (canon t) (nth (canon t) k).x.toNat) ∧ 0 ≤ (nth (canon t) k).i := by
  have hw := canon_wf t ht
  have hx : (useOf (nth (canon t) k).op).1.x = true := by rcases ho with h | h <;> rw [h] <;> rfl
  have hy : (useOf (nth (canon t) k).op).1.y = false := by rcases ho with h | h <;> rw [h] <;> rfl
  obtain ⟨h0, h1⟩ := hw.x_lt hk hx
  have e := trAt_un hw hk hx hy
  have hs := sbt_fok ht (at_sbt ht hk)
  rw [e] at hs
  rcases fok_un hs (by show (nth (canon t) k).op ≤ 10; omega) with h | ⟨-, h2, h3, h4⟩
  · omega
  · exact ⟨by omega, by rw [e, h3, h4], h2⟩
section
variable {M : Mo} {t : Fm} {N : Nat} (v : Vw M t N)
include v
theorem Vw.know {a : Nat} (ha : a < M.rel.length) {x : Fm} (hs : sbt (.un 9 (a : Int) 0 0 x) t) {w : Nat} (hw : w < N) : bt (semT M (.un 9 (a : Int) 0 0 x)).1 w = true ↔ ∀ u, u < N → bt (nth (nth M.rel a) w) u = true → bt (semT M x).1 u = true := by
  have hx := flag_sub v.fl (sbt_kid hs (rfl : Fm.kid x (.un 9 (a : Int) 0 0 x)))
  have hn : ¬ ((M.rel.length : Int) ≤ (a : Int)) := by omega
  have e : (semT M (.un 9 (a : Int) 0 0 x)).1 = relBox (nth M.rel a) (semT M x).1 := by simp [semT, valN, hx, hn]
  rw [e]; exact box_iff v.ok ha hw
theorem Vw.poss {a : Nat} (ha : a < M.rel.length) {x : Fm} (hs : sbt (.un 10 (a : Int) 0 0 x) t) {w : Nat} (hw : w < N) : bt (semT M (.un 10 (a : Int) 0 0 x)).1 w = true ↔ ∃ u, u < N ∧ bt (nth (nth M.rel a) w) u = true ∧ bt (semT M x).1 u = true := by
  have hx := flag_sub v.fl (sbt_kid hs (rfl : Fm.kid x (.un 10 (a : Int) 0 0 x)))
  have hn : ¬ ((M.rel.length : Int) ≤ (a : Int)) := by omega
  have e : (semT M (.un 10 (a : Int) 0 0 x)).1 = relDia (nth M.rel a) (semT M x).1 := by simp [semT, valN, hx, hn]
  rw [e]; exact dia_iff v.ok ha hw
theorem Vw.low {s : Fm} (hs : sbt s t) (w : Nat) : bt (semT M s).1 (lowOf (subL M t) w) = bt (semT M s).1 w := agr_sem v.fk hs (lowOf_agr _ w)
/-- The smallest one. -/
theorem filS : FilR M t N (relS M (subL M t) N) := by
  refine ⟨fun a _ w u hw hu hb => relS_iff.2 ⟨w, u, hw, hu, rfl, rfl, hb⟩, fun a x ha hs w u hw hu hR hk => ?_, fun a x ha hs w u hw hu hR hx => ?_⟩
  · obtain ⟨p, q, hp, hq, h1, h2, hb⟩ := relS_iff.1 hR
    have hx := sbt_kid hs (rfl : Fm.kid x (.un 9 (a : Int) 0 0 x))
    have hp' : bt (semT M (.un 9 (a : Int) 0 0 x)).1 p = true := by rw [agr_sem v.fk hs (lowOf_iff.1 h1)]; exact hk
    have := (v.know ha hs hp).1 hp' q hq hb
    rw [agr_sem v.fk hx (lowOf_iff.1 h2)] at this
    exact this
  · obtain ⟨p, q, hp, hq, h1, h2, hb⟩ := relS_iff.1 hR
    have hxs := sbt_kid hs (rfl : Fm.kid x (.un 10 (a : Int) 0 0 x))
    have hq' : bt (semT M x).1 q = true := by rw [agr_sem v.fk hxs (lowOf_iff.1 h2)]; exact hx
    have := (v.poss ha hs hp).2 ⟨q, hq, hb, hq'⟩
    rw [agr_sem v.fk hs (lowOf_iff.1 h1)] at this
    exact this
/-- A relation is transitive. -/
def TransR (M : Mo) (N a : Nat) : Prop := ∀ w u z, w < N → u < N → z < N → bt (nth (nth M.rel a) w) u = true → bt (nth (nth M.rel a) u) z = true → bt (nth (nth M.rel a) w) z = true
omit v in
theorem permL_iff {L : List (BitVec 64)} {c : List Nd} {keep : Bool} {a x y : Nat} : permL L c keep a x y = true ↔ ∀ k, k < c.length → (nth c k).i = (a : Int) → ((nth c k).op = 9 → bt (nth L k) x = true → bt (nth L (nth c k).x.toNat) y = true ∧ (keep = true → bt (nth L k) y = true)) ∧ ((nth c k).op = 10 → (bt (nth L (nth c k).x.toNat) y = true ∨ (keep = true ∧ bt (nth L k) y = true)) → bt (nth L k) x = true) := by
  unfold permL
  simp only [List.all_eq_true, List.mem_range]
  have hh : ∀ k, perN L (nth c k) k a x y keep = true ↔ ((nth c k).i = (a : Int) → ((nth c k).op = 9 → bt (nth L k) x = true → bt (nth L (nth c k).x.toNat) y = true ∧ (keep = true → bt (nth L k) y = true)) ∧ ((nth c k).op = 10 → (bt (nth L (nth c k).x.toNat) y = true ∨ (keep = true ∧ bt (nth L k) y = true)) → bt (nth L k) x = true)) := by
    intro k
    unfold perN
    by_cases h1 : (nth c k).i = (a : Int)
    · by_cases h2 : (nth c k).op = 9
      · have h3 : ¬ (nth c k).op = 10 := by omega
        cases keep <;> cases bt (nth L k) x <;> cases bt (nth L (nth c k).x.toNat) y <;> cases bt (nth L k) y <;> simp [h1, h2]
      · by_cases h3 : (nth c k).op = 10
        · cases keep <;> cases bt (nth L k) x <;> cases bt (nth L (nth c k).x.toNat) y <;> cases bt (nth L k) y <;> simp [h1, h3]
        · simp [h1, h2, h3]
    · simp [h1]
  exact ⟨fun h k hk => (hh k).1 (h k hk), fun h k hk => (hh k).2 (h k hk)⟩
/-- The largest one, and the transitive one of a transitive model. -/
theorem filP (keep : Bool) (htr : keep = true → ∀ a, a < M.rel.length → TransR M N a) : FilR M t N (permL (subL M t) (canon t) keep) := by
  refine ⟨fun a ha w u hw hu hb => permL_iff.2 fun k hk hi => ⟨fun ho hkn => ?_, fun ho hor => ?_⟩, fun a x ha hs w u hw hu hR hk => ?_, fun a x ha hs w u hw hu hR hx => ?_⟩
  · obtain ⟨hxl, e, -⟩ := node_un v.fk hk (.inl ho)
    rw [ho, hi] at e
    have hs := at_sbt v.fk hk
    have hxs := at_sbt v.fk hxl
    rw [e] at hs
    rw [subL_nth _ _ hk, e, v.low hs] at hkn
    have h1 := (v.know ha hs hw).1 hkn
    refine ⟨?_, fun hkeep => ?_⟩
    · rw [subL_nth _ _ hxl, v.low hxs]; exact h1 u hu hb
    · rw [subL_nth _ _ hk, e, v.low hs]
      exact (v.know ha hs hu).2 fun z hz hb2 => h1 z hz (htr hkeep a ha w u z hw hu hz hb hb2)
  · obtain ⟨hxl, e, -⟩ := node_un v.fk hk (.inr ho)
    rw [ho, hi] at e
    have hs := at_sbt v.fk hk
    have hxs := at_sbt v.fk hxl
    rw [e] at hs
    rw [subL_nth _ _ hk, e, v.low hs, v.poss ha hs hw]
    rcases hor with h | ⟨hkeep, h⟩
    · rw [subL_nth _ _ hxl, v.low hxs] at h
      exact ⟨u, hu, hb, h⟩
    · rw [subL_nth _ _ hk, e, v.low hs, v.poss ha hs hu] at h
      obtain ⟨z, hz, hb2, h⟩ := h
      exact ⟨z, hz, htr hkeep a ha w u z hw hu hz hb hb2, h⟩
  · obtain ⟨k, hkl, ho, hi, hxl, ex, e⟩ := node_box (.inl rfl) v.fk hs
    have h := ((permL_iff.1 hR k hkl hi).1 ho (by rw [subL_nth _ _ hkl, e, v.low hs]; exact hk)).1
    rw [subL_nth _ _ hxl, ex, v.low (sbt_kid hs rfl)] at h
    exact h
  · obtain ⟨k, hkl, ho, hi, hxl, ex, e⟩ := node_box (.inr rfl) v.fk hs
    have h := (permL_iff.1 hR k hkl hi).2 ho (.inl (by rw [subL_nth _ _ hxl, ex, v.low (sbt_kid hs rfl)]; exact hx))
    rw [subL_nth _ _ hkl, e, v.low hs] at h
    exact h
end
/-- The transitive one is transitive. -/
theorem perm_trans {L : List (BitVec 64)} {c : List Nd} {a x y z : Nat} (h1 : permL L c true a x y = true) (h2 : permL L c true a y z = true) : permL L c true a x z = true := by
  rw [permL_iff] at h1 h2 ⊢
  intro k hk hi
  obtain ⟨a1, a2⟩ := h1 k hk hi
  obtain ⟨b1, b2⟩ := h2 k hk hi
  refine ⟨fun ho hx => ?_, fun ho hor => ?_⟩
  · exact b1 ho ((a1 ho hx).2 rfl)
  · exact a2 ho (.inr ⟨rfl, b2 ho hor⟩)
theorem perm_mono {L : List (BitVec 64)} {c : List Nd} {a x y : Nat} (h : permL L c true a x y = true) : permL L c false a x y = true := by
  rw [permL_iff] at h ⊢
  intro k hk hi
  obtain ⟨a1, a2⟩ := h k hk hi
  exact ⟨fun ho hx => ⟨(a1 ho hx).1, fun h => by cases h⟩, fun ho hor => a2 ho (by rcases hor with h | ⟨h, _⟩; exact .inl h; cases h)⟩
/-- The smallest one is contained in every other. -/
theorem relS_le {M : Mo} {t : Fm} {N : Nat} {R : Nat → Nat → Nat → Bool} (h : FilR M t N R) {a x y : Nat} (ha : a < M.rel.length) (hS : relS M (subL M t) N a x y = true) : R a x y = true := by
  obtain ⟨w, u, hw, hu, rfl, rfl, hb⟩ := relS_iff.1 hS
  exact h.fwd a ha w u hw hu hb
end Wt
