/- Walks: the conditions that filter.Smallest, Largest and Transitive hand to build. -/
import Derived.Test.YtbeaagnahldefaaDoorM7Ay
import Derived.Test.YtbeaagnahldefaaDoorM7Az
import Derived.BigQuiet
import Derived.Deep.QuietTactic
import Derived.Test.YtbeaagnahldefaaDoorM7Ao
namespace Wt
open Go Go.RowKit Go.Maps Go.Proofs Fm

theorem nat_beq (a b : Nat) : (((a : Nat) : Int) == (b : Int)) = (a == b) := by
  rw [Bool.eq_iff_iff, beq_iff_eq, beq_iff_eq]; omega
theorem any_snoc {k : Nat} {F : Nat → Bool} (h : ((List.range k).any F) = false) (h2 : F k = false) : ((List.range (k + 1)).any F) = false := by
  rw [List.range_succ, List.any_append, h]; simp [h2]
theorem any_hit {n k : Nat} {F : Nat → Bool} (hk : k < n) (h : F k = true) : (List.range n).any F = true := List.any_eq_true.2 ⟨k, List.mem_range.2 hk, h⟩
set_option maxRecDepth 20000 in
set_option maxHeartbeats 8000000 in
theorem small1_any (M : Mo) (N : Nat) (L : List (BitVec 64)) (va ra : Option Addr) (vc rc bl bm gp a x y : Nat) (w : World) (ok : MoOk M N) (hl : w.cell? ⟨bl, 0, none⟩ = some (.slice (some ⟨gp, 0, none⟩) N N)) (hlo : RI w (some ⟨gp, 0, none⟩) (natI (lowL L N))) (hb : MoBox w bm ⟨M.worlds, M.val, M.rel⟩ va vc ra rc) (hm : RM w va ra M) (ha : a < M.rel.length) :
    Calls Tryd.prog 33 #[.int .i64 (a : Int), .int .i64 (x : Int), .int .i64 (y : Int), .pointer (some ⟨bl, 0, none⟩), .pointer (some ⟨bm, 0, none⟩)] w fun e w' => e = .returned (.bool (relS M L N a x y)) ∧ w = w' := by
  have HLO := Lib.hid hlo
  have h64 := ok.most
  have hlb := World.block_lt_of_cell? _ _ hl
  obtain ⟨m0, m1, m2⟩ := hb
  dsimp only at m0 m1 m2 hlb
  obtain ⟨b1, o1, a', c', rfl, hb1, hc1, hu⟩ := hm.rel.get ha
  have hrl : (nth M.rel a).length = N := ok.row _ (by rw [nth_eq _ _ ha]; exact List.getElem_mem _)
  have HU := Lib.hid hu
  have HRS : Hid (relS M L N a x y = (List.range N).any fun w => (List.range N).any fun u => lowOf L w == x && lowOf L u == y && bt (nth (nth M.rel a) w) u) := Lib.hid rfl
  have HLL : Hid ((lowL L N).length = N) := Lib.hid (lowL_len L N)
  have HLN : Hid (∀ k, k < N → nth (lowL L N) k = lowOf L k) := Lib.hid fun k hk => lowL_nth L hk
  have hmr := hm.rel.len
  generalize relS M L N a x y = rs at *
  clear hlo hu hm ok
  go_enter Tryd.func33, Tryd.ntmps33
  go_wp2_with fail
  go_loop [15] (fun i => ∃ k : Nat, k ≤ N ∧ i = .int .i64 (k : Int) ∧ Hid (((List.range k).any fun w => (List.range N).any fun u => lowOf L w == x && lowOf L u == y && bt (nth (nth M.rel a) w) u) = false)) (fun i => N - (RowKit.intOf i).toNat)
  case atStart => exact ⟨0, Nat.zero_le _, rfl, Lib.hid rfl⟩
  case round =>
    obtain ⟨k, hk, rfl, HK⟩ := hrel
    by_cases hkN : k < N
    · obtain ⟨b2, o2, e2, hb2, hc2⟩ := HLO.out.get (k := k) (by rw [natI_ln, HLL.out]; exact hkN)
      cases e2
      rw [nth_natI (by rw [HLL.out]; exact hkN), HLN.out k hkN, Nat.zero_add] at hc2
      obtain ⟨b3, o3, rfl, hb3, hc3⟩ := HU.out.get (k := k) (by rw [hrl]; exact hkN)
      go_wp2_with fail
      generalize hlk : lowOf L k = lk at *
      have HLK := Lib.hid hlk
      clear hlk
      obtain ⟨G, hG⟩ : ∃ G : Nat → Bool, G = fun u => lk == x && lowOf L u == y && bt (nth (nth M.rel a) k) u := ⟨_, rfl⟩
      have HG := Lib.hid hG
      have HGJ : Hid (∀ j, G j = (lk == x && lowOf L j == y && bt (nth (nth M.rel a) k) j)) := Lib.hid fun j => by rw [hG]
      clear hG
      go_loop [22] (fun i => ∃ j : Nat, j ≤ N ∧ i = .int .i64 (j : Int) ∧ Hid (((List.range j).any G) = false)) (fun i => N - (RowKit.intOf i).toNat)
      case atStart => exact ⟨0, Nat.zero_le _, rfl, Lib.hid rfl⟩
      case round =>
        obtain ⟨j, hj, rfl, HJ⟩ := hrel
        by_cases hjN : j < N
        · obtain ⟨b4, o4, e4, hb4, hc4⟩ := HLO.out.get (k := j) (by rw [natI_ln, HLL.out]; exact hjN)
          cases e4
          rw [nth_natI (by rw [HLL.out]; exact hjN), HLN.out j hjN, Nat.zero_add] at hc4
          have hj64 : j < 64 := by omega
          have hbu := bit_un (nth (nth M.rel a) k) j
          generalize hlj : lowOf L j = lj at *
          have HLJ := Lib.hid hlj
          clear hlj
          have he1 := nat_beq lk x
          have he2 := nat_beq lj y
          cases q1 : (lk == x) <;> cases q2 : (lj == y) <;> cases q3 : bt (nth (nth M.rel a) k) j
          all_goals
            rw [q1] at he1
            rw [q2] at he2
            rw [q3] at hbu
            simp only [b01I, if_true, if_false, Bool.false_eq_true] at hbu
            have Q1 := Lib.hid q1
            have Q2 := Lib.hid q2
            have Q3 := Lib.hid q3
            clear q1 q2 q3
            go_wp2_with fail
            first
            | (go_round
               case rel => exact ⟨j + 1, hjN, by go_num, Lib.hid (any_snoc HJ.out (by rw [HGJ.out, HLJ.out, Q1.out, Q2.out, Q3.out]; rfl))⟩
               case measure => simp [RowKit.intOf]; omega)
            | (go_ret
               exact ⟨by rw [HRS.out, any_hit hkN (any_hit hjN (by show (lowOf L k == x && lowOf L j == y && bt (nth (nth M.rel a) k) j) = true; rw [HLK.out, HLJ.out, Q1.out, Q2.out, Q3.out]; rfl))]; rfl, by first | rfl | trivial⟩)
        · obtain rfl : N = j := by omega
          have HKN : Hid (((List.range (k + 1)).any fun w => (List.range N).any fun u => lowOf L w == x && lowOf L u == y && bt (nth (nth M.rel a) w) u) = false) := Lib.hid (any_snoc HK.out (by show ((List.range N).any fun u => lowOf L k == x && lowOf L u == y && bt (nth (nth M.rel a) k) u) = false; rw [HLK.out, ← HG.out]; exact HJ.out))
          go_wp2_with fail
          go_round
          case rel => exact ⟨k + 1, hkN, by go_num, HKN⟩
          case measure => simp [RowKit.intOf]; omega
    · obtain rfl : N = k := by omega
      go_wp2_with fail
      go_ret
      exact ⟨by rw [HRS.out, HK.out]; rfl, rfl⟩
set_option maxHeartbeats 2000000 in
theorem large1_any (b : Nat) (W : Int) (L : List (BitVec 64)) (c : List Nd) (va ra ca sa : Option Addr) (vl vc rl rc cc sc : Nat) (w : World) (hv : VwAt w b W va ra ca sa vl vc rl rc c.length cc L.length sc) (hn : RN w ca c) (hs : RU w sa L) (hcl : L.length = c.length) (hbx : boxOk c) (a x y bv : Nat) (hx : x < 64) (hy : y < 64) (hbv : w.cell? ⟨bv, 0, none⟩ = some (.pointer (some ⟨b, 0, none⟩))) :
    Calls Tryd.prog 34 #[.int .i64 (a : Int), .int .i64 (x : Int), .int .i64 (y : Int), .pointer (some ⟨bv, 0, none⟩)] w fun e w' => e = .returned (.bool (permL L c false a x y)) ∧ Ext w w' := by
  have HP := Lib.hid (permits_any b W L c va ra ca sa vl vc rl rc cc sc w hv hn hs hcl hbx a x y hx hy false)
  have hlb := World.block_lt_of_cell? _ _ hbv
  dsimp only at hlb
  clear hv hn hs hcl hbx
  go_enter Tryd.func34, Tryd.ntmps34
  go_wp2_with (go_at_call 35; refine HP.out.mono ?_; rintro _ w1 ⟨rfl, hE⟩)
  go_ret
  exact ⟨rfl, hE⟩
set_option maxHeartbeats 2000000 in
theorem trans2_any (b : Nat) (W : Int) (L : List (BitVec 64)) (c : List Nd) (va ra ca sa : Option Addr) (vl vc rl rc cc sc : Nat) (w : World) (hv : VwAt w b W va ra ca sa vl vc rl rc c.length cc L.length sc) (hn : RN w ca c) (hs : RU w sa L) (hcl : L.length = c.length) (hbx : boxOk c) (a x y bv : Nat) (hx : x < 64) (hy : y < 64) (hbv : w.cell? ⟨bv, 0, none⟩ = some (.pointer (some ⟨b, 0, none⟩))) :
    Calls Tryd.prog 40 #[.int .i64 (a : Int), .int .i64 (x : Int), .int .i64 (y : Int), .pointer (some ⟨bv, 0, none⟩)] w fun e w' => e = .returned (.bool (permL L c true a x y)) ∧ Ext w w' := by
  have HP := Lib.hid (permits_any b W L c va ra ca sa vl vc rl rc cc sc w hv hn hs hcl hbx a x y hx hy true)
  have hlb := World.block_lt_of_cell? _ _ hbv
  dsimp only at hlb
  clear hv hn hs hcl hbx
  go_enter Tryd.func40, Tryd.ntmps40
  go_wp2_with (go_at_call 35; refine HP.out.mono ?_; rintro _ w1 ⟨rfl, hE⟩)
  go_ret
  exact ⟨rfl, hE⟩
theorem cf_small1 (args : Array Value) (W : World) : (callFunc 33 args).run Tryd.prog W = .ok (.enter 33 args) W := by
  simp [callFunc, Tryd.func33, Tryd.f33]
theorem cf_large1 (args : Array Value) (W : World) : (callFunc 34 args).run Tryd.prog W = .ok (.enter 34 args) W := by
  simp [callFunc, Tryd.func34, Tryd.f34]
theorem cf_trans2 (args : Array Value) (W : World) : (callFunc 40 args).run Tryd.prog W = .ok (.enter 40 args) W := by
  simp [callFunc, Tryd.func40, Tryd.f40]
end Wt

/- Walks: filter.Classes, filter.Smallest, filter.Largest. -/
namespace Wt
open Go Go.RowKit Go.Maps Go.Proofs Fm

/-- A list of worlds and an error. -/
def RetLi (l : List Nat) (c : Int) (e : Ending) (w w' : World) : Prop := ∃ a cp, e = .returned (.tuple #[.slice a l.length cp, .int .i64 c]) ∧ RI w' a (natI l) ∧ Ext w w'
/-- The classes. -/
def filC (M : Mo) (f : List Nd) : List Nat := if lookErr M f = 0 then lowL (subL M (rt f)) M.worlds.toNat else []
/-- The class of each world, as a number. -/
def filN (M : Mo) (f : List Nd) : List Nat := if lookErr M f = 0 then (List.range M.worlds.toNat).map (clsOf (subL M (rt f)) M.worlds.toNat) else []
def filSm (M : Mo) (f : List Nd) : Mo := if lookErr M f = 0 then filM M (fFacts f) (repL (subL M (rt f)) M.worlds.toNat) (relS M (subL M (rt f)) M.worlds.toNat) else ⟨0, [], []⟩
def filLa (M : Mo) (f : List Nd) (keep : Bool) : Mo := if lookErr M f = 0 then filM M (fFacts f) (repL (subL M (rt f)) M.worlds.toNat) (permL (subL M (rt f)) (canon (rt f)) keep) else ⟨0, [], []⟩
/-- What there is to know of a right model and formula. -/
structure Vok (M : Mo) (f : List Nd) (N : Nat) : Prop where
  vw : Vw M (rt f) N
  len : (subL M (rt f)).length ≤ 200
  cc : fCompact f = canon (rt f)
  same : (subL M (rt f)).length = (fCompact f).length
  fx : fFacts (fCompact f) = fFacts f
  box : boxOk (fCompact f)
  nn : M.worlds.toNat = N
theorem vok_of {M : Mo} {f : List Nd} (h : lookErr M f = 0) : ∃ N, Vok M f N := by
  obtain ⟨h1, h2, h3, N, hv⟩ := look_sets h
  obtain ⟨k1, k2, k3, k4⟩ := lookErr_ok h
  refine ⟨N, hv, by rw [subL_len, ← h2]; exact h3, h2, by rw [subL_len, h2], ?_, ?_, by rw [hv.ok.worlds]; rfl⟩
  · unfold fFacts; rw [(compact_twice k2).2]
  · intro k hk ho
    rw [h2] at hk ho ⊢
    have hx := (node_un hv.fk hk ho).1
    have hw := canon_wf _ hv.fk
    have hxx : (useOf (nth (canon (rt f)) k).op).1.x = true := by rcases ho with h | h <;> rw [h] <;> rfl
    exact ⟨hx, (hw.x_lt hk hxx).1⟩
theorem agree_end {B B' b : Nat} {w4 w'' : World} {o : Obj} {x y z : Value} (hb : b < B') (hB : B ≤ B') (h : Agree B ((((w4.alloc o).setCell ⟨b, 0, none⟩ x).setCell ⟨b, 1, none⟩ y).setCell ⟨b, 2, none⟩ z) w'') : Agree B' w4 w'' := fun k hk hl => by
  rw [h k (by omega) (by simp; omega), heap_setCell_other _ ⟨b, 2, none⟩ k _ (by simp; omega), heap_setCell_other _ ⟨b, 1, none⟩ k _ (by simp; omega), heap_setCell_other _ ⟨b, 0, none⟩ k _ (by simp; omega), Below.heap_alloc _ _ _ hl]
set_option maxRecDepth 20000 in
set_option maxHeartbeats 4000000 in
theorem fClasses_any (M : Mo) (va ra : Option Addr) (vc rc : Nat) (fa : Option Addr) (fc : Nat) (f : List Nd) (w : World) (hm : RM w va ra M) (hf : RN w fa f) :
    Calls Tryd.prog 15 #[.agg #[.int .i64 M.worlds, .slice va M.val.length vc, .slice ra M.rel.length rc], .slice fa f.length fc] w fun e w' => RetLi (filC M f) (lookErr M f) e w w' := by
  have hE0 := (Ext.refl w).alloc (.cells #[.int .i64 M.worlds, .slice va M.val.length vc, .slice ra M.rel.length rc] 25)
  obtain ⟨m0, m1, m2⟩ := MoBox.new w M.worlds M.val M.rel va vc ra rc 25
  have HE := Lib.hid hE0
  have HM := Lib.hid (hm.ext hE0)
  have HF := Lib.hid (hf.ext hE0)
  clear hE0 hf hm
  by_cases hl : lookErr M f = 0
  · obtain ⟨N, vk⟩ := vok_of hl
    have HVK := Lib.hid vk
    have HL := Lib.hid hl
    have HC : Hid (filC M f = lowL (subL M (rt f)) N) := Lib.hid (by unfold filC; rw [if_pos hl, vk.nn])
    have HLK : Hid (∀ W, RM W va ra M → RN W fa f → Calls Tryd.prog 30 #[.agg #[.int .i64 M.worlds, .slice va M.val.length vc, .slice ra M.rel.length rc], .slice fa f.length fc] W fun e w' => RetV5 M va ra vc rc f e W w') := Lib.hid fun W h1 h2 => look_any M va ra vc rc fa fc f W h1 h2 hl
    clear hl vk
    go_enter Tryd.func15, Tryd.ntmps15
    go_wp2_with fail
    refine (HLK.out _ HM.out HF.out).mono ?_
    rintro _ w1 ⟨b, ca, sa, cc, sc, rfl, hb, hv, hn, hs, hE1⟩
    rw [HVK.out.vw.ok.worlds] at hv
    have HV := Lib.hid hv
    have HS := Lib.hid hs
    have HE1 := Lib.hid (HE.out.trans hE1)
    clear hb hv hn hs hE1 m0 m1 m2
    dsimp only
    go_wp2_with fail
    refine (classes_any N b (subL M (rt f)) va ra ca sa _ vc _ rc _ cc sc w1 HV.out HS.out HVK.out.vw.ok.most HVK.out.len).mono ?_
    rintro _ w2 ⟨g, rfl, ho, hE2⟩
    dsimp only
    go_wp2_with fail
    go_ret2
    exact ⟨some ⟨g, 0, none⟩, N, by rw [HC.out, lowL_len, HL.out]; rfl, by rw [HC.out]; exact RI_of_OG ho (by have := HVK.out.vw.ok.most; omega), HE1.out.trans hE2⟩
  · have HLK : Hid (∀ W, RM W va ra M → RN W fa f → Calls Tryd.prog 30 #[.agg #[.int .i64 M.worlds, .slice va M.val.length vc, .slice ra M.rel.length rc], .slice fa f.length fc] W fun e w' => e = .returned (.tuple #[.pointer none, .int .i64 (lookErr M f)]) ∧ Ext W w') := Lib.hid fun W h1 h2 => lookNo_any M va ra vc rc fa fc f W h1 h2 hl
    have HC : Hid (filC M f = []) := Lib.hid (if_neg hl)
    have hq : (lookErr M f != 0) = true := by simpa using hl
    clear hl
    generalize lookErr M f = er at *
    go_enter Tryd.func15, Tryd.ntmps15
    go_wp2_with fail
    refine (HLK.out _ HM.out HF.out).mono ?_
    rintro _ w1 ⟨rfl, hE1⟩
    dsimp only
    go_wp2_with fail
    go_ret2
    exact ⟨none, 0, by rw [HC.out]; rfl, by rw [HC.out]; exact RI.nil _ _, HE.out.trans hE1⟩
end Wt

/- Walks: filter.Smallest, filter.Largest (printed by gen_fli.py). -/
namespace Wt
open Go Go.RowKit Go.Maps Go.Proofs Fm

theorem agree_end2 {B B' b : Nat} {w4 w'' : World} {o : Obj} {x y z : Value} (hb : b < B') (hB : B ≤ B') (h : Agree B ((((w4.setCell ⟨b, 0, none⟩ x).setCell ⟨b, 1, none⟩ y).setCell ⟨b, 2, none⟩ z).alloc o) w'') : Agree B' w4 w'' := fun k hk hl => by
  rw [h k (by omega) (by simp; omega), Below.heap_alloc _ _ _ (by simp; omega), heap_setCell_other _ ⟨b, 2, none⟩ k _ (by simp; omega), heap_setCell_other _ ⟨b, 1, none⟩ k _ (by simp; omega), heap_setCell_other _ ⟨b, 0, none⟩ k _ (by simp; omega)]
set_option maxRecDepth 20000 in
set_option maxHeartbeats 8000000 in
theorem smallest_any (M : Mo) (va ra : Option Addr) (vc rc : Nat) (fa : Option Addr) (fc : Nat) (f : List Nd) (w : World) (hm : RM w va ra M) (hf : RN w fa f) :
    Calls Tryd.prog 10 #[.agg #[.int .i64 M.worlds, .slice va M.val.length vc, .slice ra M.rel.length rc], .slice fa f.length fc] w fun e w' => RetR (filSm M f) (natI (filN M f)) (lookErr M f) e w w' := by
  have hE0 := ((Ext.refl w).alloc (.cells #[.int .i64 M.worlds, .slice va M.val.length vc, .slice ra M.rel.length rc] 25)).alloc (.cells #[.int .i64 0, .slice none 0 0, .slice none 0 0] 25)
  have hbx := (MoBox.new w M.worlds M.val M.rel va vc ra rc 25).ext ((Ext.refl _).alloc (.cells #[.int .i64 0, .slice none 0 0, .slice none 0 0] 25))
  have hr0 := OutAt.new1 w (.cells #[.int .i64 M.worlds, .slice va M.val.length vc, .slice ra M.rel.length rc] 25) (.int .i64 0) (.slice none 0 0) (.slice none 0 0) 25
  have HE := Lib.hid hE0
  have HM := Lib.hid (hm.ext hE0)
  have HF := Lib.hid (hf.ext hE0)
  have HB := Lib.hid hbx
  have HR := Lib.hid hr0
  have hs0 : ((w.alloc (.cells #[.int .i64 M.worlds, .slice va M.val.length vc, .slice ra M.rel.length rc] 25)).alloc (.cells #[.int .i64 0, .slice none 0 0, .slice none 0 0] 25)).heap.size = w.heap.size + 2 := by simp
  have HSZ := Lib.hid hs0
  obtain ⟨m0, m1, m2⟩ := hbx
  dsimp only at m0 m1 m2
  clear hE0 hf hm hr0 hs0
  by_cases hl : lookErr M f = 0
  · obtain ⟨N, vk⟩ := vok_of hl
    have HVK := Lib.hid vk
    have HL := Lib.hid hl
    have HC : Hid (filN M f = (List.range N).map (clsOf (subL M (rt f)) N)) := Lib.hid (by unfold filN; rw [if_pos hl, vk.nn])
    have HA : Hid (filSm M f = filM M (fFacts (fCompact f)) (repL (subL M (rt f)) N) (relS M (subL M (rt f)) N)) := Lib.hid (by unfold filSm; rw [if_pos hl, vk.nn, vk.fx])
    have HLK : Hid (∀ W, RM W va ra M → RN W fa f → Calls Tryd.prog 30 #[.agg #[.int .i64 M.worlds, .slice va M.val.length vc, .slice ra M.rel.length rc], .slice fa f.length fc] W fun e w' => RetV5 M va ra vc rc f e W w') := Lib.hid fun W h1 h2 => look_any M va ra vc rc fa fc f W h1 h2 hl
    clear hl vk
    go_enter Tryd.func10, Tryd.ntmps10
    go_wp2_with fail
    generalize (w.alloc (.cells #[.int .i64 M.worlds, .slice va M.val.length vc, .slice ra M.rel.length rc] 25)).alloc (.cells #[.int .i64 0, .slice none 0 0, .slice none 0 0] 25) = w0 at *
    refine (HLK.out _ HM.out HF.out).mono ?_
    rintro _ w1 ⟨b, ca, sa, cc, sc, rfl, hb, hv, hn, hs, hE1⟩
    rw [HVK.out.vw.ok.worlds] at hv
    have HV := Lib.hid hv
    have HN := Lib.hid hn
    have HS := Lib.hid hs
    have HE1 := Lib.hid hE1
    clear hb hv hn hs hE1 m0 m1 m2
    dsimp only
    go_wp2_with fail
    refine (classes_any N b (subL M (rt f)) va ra ca sa _ vc _ rc _ cc sc w1 HV.out HS.out HVK.out.vw.ok.most HVK.out.len).mono ?_
    rintro _ w2 ⟨gp, rfl, ho, hE2⟩
    have HO := Lib.hid ho
    have HE2 := Lib.hid (HE1.out.trans hE2)
    have HEx := Lib.hid hE2
    clear ho hE2
    dsimp only
    go_wp2_with fail
    have hE3 : Ext w2 (w2.alloc (.cells #[.slice (some ⟨gp, 0, none⟩) N N] 29)) := (Ext.refl w2).alloc _
    have hc3 : (w2.alloc (.cells #[.slice (some ⟨gp, 0, none⟩) N N] 29)).cell? ⟨w2.heap.size, 0, none⟩ = some (.slice (some ⟨gp, 0, none⟩) N N) := by simp
    have HC3 := Lib.hid hc3
    have HE3 := Lib.hid (HE2.out.trans hE3)
    have HEy := Lib.hid (HEx.out.trans hE3)
    have HEz := Lib.hid hE3
    clear hE3 hc3
    generalize w2.alloc (.cells #[.slice (some ⟨gp, 0, none⟩) N N] 29) = w3 at *
    refine (fbuild_any M N b (fCompact f) (subL M (rt f)) (relS M (subL M (rt f)) N) 33 [.pointer (some ⟨w2.heap.size, 0, none⟩), .pointer (some ⟨w.heap.size, 0, none⟩)] va ra ca sa vc rc cc sc w3 (HV.out.ext HEy.out) (HM.out.ext HE3.out) (HN.out.ext HEy.out) (HS.out.ext HEy.out) HVK.out.vw.ok.most HVK.out.len HVK.out.vw.ok.val HVK.out.vw.ok.rel cf_small1 ?_).mono ?_
    · intro W a x y e ha _ _
      refine (small1_any M N (subL M (rt f)) va ra vc rc w2.heap.size w.heap.size gp a x y W HVK.out.vw.ok (e.cell HC3.out) ((RI_of_OG HO.out (by have := HVK.out.vw.ok.most; omega)).ext (HEz.out.trans e)) (HB.out.ext (HE3.out.trans e)) (HM.out.ext (HE3.out.trans e)) ha).mono ?_
      rintro _ _ ⟨h1, rfl⟩
      exact ⟨h1, Ext.refl _⟩
    rintro _ w4 ⟨v4, r4, l4, c4, d4, e4, rfl, hk4, hE4⟩
    rw [← HA.out, ← HC.out] at hk4 ⊢
    have hwb : w.heap.size + 1 < w3.heap.size := by have := (HE3.out).size; have := HSZ.out; omega
    have HH := Lib.hid (HR.out.ext (HE3.out.trans hE4))
    have HK4 := Lib.hid hk4
    have HE4 := Lib.hid ((HE.out.trans HE3.out).trans hE4)
    have HWB := Lib.hid hwb
    clear hk4 hE4 hwb
    generalize hqm : filSm M f = QM at *
    generalize hql : filN M f = QL at *
    have HQM := Lib.hid hqm
    have HQL := Lib.hid hql
    clear hqm hql
    obtain ⟨r0, rr1, rr2, rfz⟩ := HH.out
    have f0 := rfz 0
    have f1 := rfz 1
    have f2 := rfz 2
    have hrl9 := HH.out.lt
    clear rfz
    dsimp only
    go_wp2_with fail
    have HX := (((HH.out.set0 (.int .i64 QM.worlds)).set1 (.slice v4 QM.val.length c4)).set2 (.slice r4 QM.rel.length d4)).ext ((Ext.refl _).alloc (.cells #[.int .i64 QM.worlds, .slice v4 QM.val.length c4, .slice r4 QM.rel.length d4] 25))
    obtain ⟨d0, d1, d2, -⟩ := HX
    have hEx : Ext w ((((w4.setCell ⟨w.heap.size + 1, 0, none⟩ (.int .i64 QM.worlds)).setCell ⟨w.heap.size + 1, 1, none⟩ (.slice v4 QM.val.length c4)).setCell ⟨w.heap.size + 1, 2, none⟩ (.slice r4 QM.rel.length d4)).alloc (.cells #[.int .i64 QM.worlds, .slice v4 QM.val.length c4, .slice r4 QM.rel.length d4] 25)) := (((HE4.out.setCell (by simp) _).setCell (by simp) _).setCell (by simp) _).alloc _
    have hkF : ∀ w'', Agree w.heap.size ((((w4.setCell ⟨w.heap.size + 1, 0, none⟩ (.int .i64 QM.worlds)).setCell ⟨w.heap.size + 1, 1, none⟩ (.slice v4 QM.val.length c4)).setCell ⟨w.heap.size + 1, 2, none⟩ (.slice r4 QM.rel.length d4)).alloc (.cells #[.int .i64 QM.worlds, .slice v4 QM.val.length c4, .slice r4 QM.rel.length d4] 25)) w'' → RM w'' v4 r4 QM ∧ RI w'' l4 (natI QL) := fun w'' hg => HK4.out w'' (agree_end2 HWB.out (by have := HWB.out; omega) hg)
    generalize (((w4.setCell ⟨w.heap.size + 1, 0, none⟩ (.int .i64 QM.worlds)).setCell ⟨w.heap.size + 1, 1, none⟩ (.slice v4 QM.val.length c4)).setCell ⟨w.heap.size + 1, 2, none⟩ (.slice r4 QM.rel.length d4)).alloc (.cells #[.int .i64 QM.worlds, .slice v4 QM.val.length c4, .slice r4 QM.rel.length d4] 25) = W2 at *
    refine bodyPost_ret (v := .tuple #[.agg #[.int .i64 QM.worlds, .slice v4 QM.val.length c4, .slice r4 QM.rel.length d4], .slice l4 QL.length e4, .int .i64 0]) ?_ rfl ?_
    · rw [results_cell_two rfl]
      go_simp
    · rw [HQM.out, HQL.out]
      exact ⟨v4, r4, l4, c4, d4, e4, by rw [HL.out, natI_ln], hkF, hEx⟩
  · have HLK : Hid (∀ W, RM W va ra M → RN W fa f → Calls Tryd.prog 30 #[.agg #[.int .i64 M.worlds, .slice va M.val.length vc, .slice ra M.rel.length rc], .slice fa f.length fc] W fun e w' => e = .returned (.tuple #[.pointer none, .int .i64 (lookErr M f)]) ∧ Ext W w') := Lib.hid fun W h1 h2 => lookNo_any M va ra vc rc fa fc f W h1 h2 hl
    have HC : Hid (filN M f = []) := Lib.hid (if_neg hl)
    have HA : Hid (filSm M f = ⟨0, [], []⟩) := Lib.hid (if_neg hl)
    have hq : (lookErr M f != 0) = true := by simpa using hl
    clear hl
    generalize hle : lookErr M f = er at *
    clear hle
    go_enter Tryd.func10, Tryd.ntmps10
    go_wp2_with fail
    generalize (w.alloc (.cells #[.int .i64 M.worlds, .slice va M.val.length vc, .slice ra M.rel.length rc] 25)).alloc (.cells #[.int .i64 0, .slice none 0 0, .slice none 0 0] 25) = w0 at *
    refine (HLK.out _ HM.out HF.out).mono ?_
    rintro _ w1 ⟨rfl, hE1⟩
    have HH := Lib.hid (HR.out.ext hE1)
    have HE1 := Lib.hid (HE.out.trans hE1)
    clear hE1 m0 m1 m2
    obtain ⟨r0, rr1, rr2, rfz⟩ := HH.out
    have f0 := rfz 0
    have f1 := rfz 1
    have f2 := rfz 2
    have hrl9 := HH.out.lt
    clear rfz
    dsimp only
    go_wp2_with fail
    obtain ⟨d0, d1, d2, -⟩ := ((HH.out.set0 (.int .i64 0)).set1 (.slice none 0 0)).set2 (.slice none 0 0)
    have hEx : Ext w ((((w1.setCell ⟨w.heap.size + 1, 0, none⟩ (.int .i64 0)).setCell ⟨w.heap.size + 1, 1, none⟩ (.slice none 0 0)).setCell ⟨w.heap.size + 1, 2, none⟩ (.slice none 0 0))) := (((HE1.out.setCell (by simp) _).setCell (by simp) _).setCell (by simp) _)
    generalize (((w1.setCell ⟨w.heap.size + 1, 0, none⟩ (.int .i64 0)).setCell ⟨w.heap.size + 1, 1, none⟩ (.slice none 0 0)).setCell ⟨w.heap.size + 1, 2, none⟩ (.slice none 0 0)) = W2 at *
    refine bodyPost_ret (v := .tuple #[.agg #[.int .i64 0, .slice none 0 0, .slice none 0 0], .slice none 0 0, .int .i64 er]) ?_ rfl ?_
    · rw [results_cell_two rfl]
      go_simp
    · rw [HA.out, HC.out]
      exact ⟨none, none, none, 0, 0, 0, rfl, fun w'' _ => ⟨⟨RU.nil _ _, RR.nil _ _⟩, RI.nil _ _⟩, hEx⟩
set_option maxRecDepth 20000 in
set_option maxHeartbeats 8000000 in
theorem largest_any (M : Mo) (va ra : Option Addr) (vc rc : Nat) (fa : Option Addr) (fc : Nat) (f : List Nd) (w : World) (hm : RM w va ra M) (hf : RN w fa f) :
    Calls Tryd.prog 11 #[.agg #[.int .i64 M.worlds, .slice va M.val.length vc, .slice ra M.rel.length rc], .slice fa f.length fc] w fun e w' => RetR (filLa M f false) (natI (filN M f)) (lookErr M f) e w w' := by
  have hE0 := ((Ext.refl w).alloc (.cells #[.int .i64 M.worlds, .slice va M.val.length vc, .slice ra M.rel.length rc] 25)).alloc (.cells #[.int .i64 0, .slice none 0 0, .slice none 0 0] 25)
  have hbx := (MoBox.new w M.worlds M.val M.rel va vc ra rc 25).ext ((Ext.refl _).alloc (.cells #[.int .i64 0, .slice none 0 0, .slice none 0 0] 25))
  have hr0 := OutAt.new1 w (.cells #[.int .i64 M.worlds, .slice va M.val.length vc, .slice ra M.rel.length rc] 25) (.int .i64 0) (.slice none 0 0) (.slice none 0 0) 25
  have HE := Lib.hid hE0
  have HM := Lib.hid (hm.ext hE0)
  have HF := Lib.hid (hf.ext hE0)
  have HB := Lib.hid hbx
  have HR := Lib.hid hr0
  have hs0 : ((w.alloc (.cells #[.int .i64 M.worlds, .slice va M.val.length vc, .slice ra M.rel.length rc] 25)).alloc (.cells #[.int .i64 0, .slice none 0 0, .slice none 0 0] 25)).heap.size = w.heap.size + 2 := by simp
  have HSZ := Lib.hid hs0
  obtain ⟨m0, m1, m2⟩ := hbx
  dsimp only at m0 m1 m2
  clear hE0 hf hm hr0 hs0
  by_cases hl : lookErr M f = 0
  · obtain ⟨N, vk⟩ := vok_of hl
    have HVK := Lib.hid vk
    have HL := Lib.hid hl
    have HC : Hid (filN M f = (List.range N).map (clsOf (subL M (rt f)) N)) := Lib.hid (by unfold filN; rw [if_pos hl, vk.nn])
    have HA : Hid (filLa M f false = filM M (fFacts (fCompact f)) (repL (subL M (rt f)) N) (permL (subL M (rt f)) (fCompact f) false)) := Lib.hid (by unfold filLa; rw [if_pos hl, vk.nn, vk.fx, vk.cc])
    have HLK : Hid (∀ W, RM W va ra M → RN W fa f → Calls Tryd.prog 30 #[.agg #[.int .i64 M.worlds, .slice va M.val.length vc, .slice ra M.rel.length rc], .slice fa f.length fc] W fun e w' => RetV5 M va ra vc rc f e W w') := Lib.hid fun W h1 h2 => look_any M va ra vc rc fa fc f W h1 h2 hl
    clear hl vk
    go_enter Tryd.func11, Tryd.ntmps11
    go_wp2_with fail
    generalize (w.alloc (.cells #[.int .i64 M.worlds, .slice va M.val.length vc, .slice ra M.rel.length rc] 25)).alloc (.cells #[.int .i64 0, .slice none 0 0, .slice none 0 0] 25) = w0 at *
    refine (HLK.out _ HM.out HF.out).mono ?_
    rintro _ w1 ⟨b, ca, sa, cc, sc, rfl, hb, hv, hn, hs, hE1⟩
    rw [HVK.out.vw.ok.worlds] at hv
    have HV := Lib.hid hv
    have HN := Lib.hid hn
    have HS := Lib.hid hs
    have HE1 := Lib.hid hE1
    clear hb hv hn hs hE1 m0 m1 m2
    dsimp only
    go_wp2_with fail
    have hE3 : Ext w1 (w1.alloc (.cells #[.pointer (some ⟨b, 0, none⟩)] 57)) := (Ext.refl w1).alloc _
    have hc3 : (w1.alloc (.cells #[.pointer (some ⟨b, 0, none⟩)] 57)).cell? ⟨w1.heap.size, 0, none⟩ = some (.pointer (some ⟨b, 0, none⟩)) := by simp
    have HC3 := Lib.hid hc3
    have HE3 := Lib.hid (HE1.out.trans hE3)
    have HEy := Lib.hid hE3
    clear hE3 hc3
    generalize w1.alloc (.cells #[.pointer (some ⟨b, 0, none⟩)] 57) = w3 at *
    refine (fbuild_any M N b (fCompact f) (subL M (rt f)) (permL (subL M (rt f)) (fCompact f) false) 34 [.pointer (some ⟨w1.heap.size, 0, none⟩)] va ra ca sa vc rc cc sc w3 (HV.out.ext HEy.out) (HM.out.ext HE3.out) (HN.out.ext HEy.out) (HS.out.ext HEy.out) HVK.out.vw.ok.most HVK.out.len HVK.out.vw.ok.val HVK.out.vw.ok.rel cf_large1 ?_).mono ?_
    · intro W a x y e ha hx hy
      have h64 := HVK.out.vw.ok.most
      exact large1_any b (N : Int) (subL M (rt f)) (fCompact f) va ra ca sa _ vc _ rc cc sc W (HV.out.ext (HEy.out.trans e)) (HN.out.ext (HEy.out.trans e)) (HS.out.ext (HEy.out.trans e)) HVK.out.same HVK.out.box a x y w1.heap.size (by omega) (by omega) (e.cell HC3.out)
    rintro _ w4 ⟨v4, r4, l4, c4, d4, e4, rfl, hk4, hE4⟩
    rw [← HA.out, ← HC.out] at hk4 ⊢
    have hwb : w.heap.size + 1 < w3.heap.size := by have := (HE3.out).size; have := HSZ.out; omega
    have HH := Lib.hid (HR.out.ext (HE3.out.trans hE4))
    have HK4 := Lib.hid hk4
    have HE4 := Lib.hid ((HE.out.trans HE3.out).trans hE4)
    have HWB := Lib.hid hwb
    clear hk4 hE4 hwb
    generalize hqm : filLa M f false = QM at *
    generalize hql : filN M f = QL at *
    have HQM := Lib.hid hqm
    have HQL := Lib.hid hql
    clear hqm hql
    obtain ⟨r0, rr1, rr2, rfz⟩ := HH.out
    have f0 := rfz 0
    have f1 := rfz 1
    have f2 := rfz 2
    have hrl9 := HH.out.lt
    clear rfz
    dsimp only
    go_wp2_with fail
    have HX := (((HH.out.set0 (.int .i64 QM.worlds)).set1 (.slice v4 QM.val.length c4)).set2 (.slice r4 QM.rel.length d4)).ext ((Ext.refl _).alloc (.cells #[.int .i64 QM.worlds, .slice v4 QM.val.length c4, .slice r4 QM.rel.length d4] 25))
    obtain ⟨d0, d1, d2, -⟩ := HX
    have hEx : Ext w ((((w4.setCell ⟨w.heap.size + 1, 0, none⟩ (.int .i64 QM.worlds)).setCell ⟨w.heap.size + 1, 1, none⟩ (.slice v4 QM.val.length c4)).setCell ⟨w.heap.size + 1, 2, none⟩ (.slice r4 QM.rel.length d4)).alloc (.cells #[.int .i64 QM.worlds, .slice v4 QM.val.length c4, .slice r4 QM.rel.length d4] 25)) := (((HE4.out.setCell (by simp) _).setCell (by simp) _).setCell (by simp) _).alloc _
    have hkF : ∀ w'', Agree w.heap.size ((((w4.setCell ⟨w.heap.size + 1, 0, none⟩ (.int .i64 QM.worlds)).setCell ⟨w.heap.size + 1, 1, none⟩ (.slice v4 QM.val.length c4)).setCell ⟨w.heap.size + 1, 2, none⟩ (.slice r4 QM.rel.length d4)).alloc (.cells #[.int .i64 QM.worlds, .slice v4 QM.val.length c4, .slice r4 QM.rel.length d4] 25)) w'' → RM w'' v4 r4 QM ∧ RI w'' l4 (natI QL) := fun w'' hg => HK4.out w'' (agree_end2 HWB.out (by have := HWB.out; omega) hg)
    generalize (((w4.setCell ⟨w.heap.size + 1, 0, none⟩ (.int .i64 QM.worlds)).setCell ⟨w.heap.size + 1, 1, none⟩ (.slice v4 QM.val.length c4)).setCell ⟨w.heap.size + 1, 2, none⟩ (.slice r4 QM.rel.length d4)).alloc (.cells #[.int .i64 QM.worlds, .slice v4 QM.val.length c4, .slice r4 QM.rel.length d4] 25) = W2 at *
    refine bodyPost_ret (v := .tuple #[.agg #[.int .i64 QM.worlds, .slice v4 QM.val.length c4, .slice r4 QM.rel.length d4], .slice l4 QL.length e4, .int .i64 0]) ?_ rfl ?_
    · rw [results_cell_two rfl]
      go_simp
    · rw [HQM.out, HQL.out]
      exact ⟨v4, r4, l4, c4, d4, e4, by rw [HL.out, natI_ln], hkF, hEx⟩
  · have HLK : Hid (∀ W, RM W va ra M → RN W fa f → Calls Tryd.prog 30 #[.agg #[.int .i64 M.worlds, .slice va M.val.length vc, .slice ra M.rel.length rc], .slice fa f.length fc] W fun e w' => e = .returned (.tuple #[.pointer none, .int .i64 (lookErr M f)]) ∧ Ext W w') := Lib.hid fun W h1 h2 => lookNo_any M va ra vc rc fa fc f W h1 h2 hl
    have HC : Hid (filN M f = []) := Lib.hid (if_neg hl)
    have HA : Hid (filLa M f false = ⟨0, [], []⟩) := Lib.hid (if_neg hl)
    have hq : (lookErr M f != 0) = true := by simpa using hl
    clear hl
    generalize hle : lookErr M f = er at *
    clear hle
    go_enter Tryd.func11, Tryd.ntmps11
    go_wp2_with fail
    generalize (w.alloc (.cells #[.int .i64 M.worlds, .slice va M.val.length vc, .slice ra M.rel.length rc] 25)).alloc (.cells #[.int .i64 0, .slice none 0 0, .slice none 0 0] 25) = w0 at *
    refine (HLK.out _ HM.out HF.out).mono ?_
    rintro _ w1 ⟨rfl, hE1⟩
    have HH := Lib.hid (HR.out.ext hE1)
    have HE1 := Lib.hid (HE.out.trans hE1)
    clear hE1 m0 m1 m2
    obtain ⟨r0, rr1, rr2, rfz⟩ := HH.out
    have f0 := rfz 0
    have f1 := rfz 1
    have f2 := rfz 2
    have hrl9 := HH.out.lt
    clear rfz
    dsimp only
    go_wp2_with fail
    obtain ⟨d0, d1, d2, -⟩ := OutAt.ext (((HH.out.set0 (.int .i64 0)).set1 (.slice none 0 0)).set2 (.slice none 0 0)) ((Ext.refl _).alloc (.cells #[.pointer none] 57))
    have hEx : Ext w ((((w1.setCell ⟨w.heap.size + 1, 0, none⟩ (.int .i64 0)).setCell ⟨w.heap.size + 1, 1, none⟩ (.slice none 0 0)).setCell ⟨w.heap.size + 1, 2, none⟩ (.slice none 0 0)).alloc (.cells #[.pointer none] 57)) := (((HE1.out.setCell (by simp) _).setCell (by simp) _).setCell (by simp) _).alloc _
    generalize (((w1.setCell ⟨w.heap.size + 1, 0, none⟩ (.int .i64 0)).setCell ⟨w.heap.size + 1, 1, none⟩ (.slice none 0 0)).setCell ⟨w.heap.size + 1, 2, none⟩ (.slice none 0 0)).alloc (.cells #[.pointer none] 57) = W2 at *
    refine bodyPost_ret (v := .tuple #[.agg #[.int .i64 0, .slice none 0 0, .slice none 0 0], .slice none 0 0, .int .i64 er]) ?_ rfl ?_
    · rw [results_cell_two rfl]
      go_simp
    · rw [HA.out, HC.out]
      exact ⟨none, none, none, 0, 0, 0, rfl, fun w'' _ => ⟨⟨RU.nil _ _, RR.nil _ _⟩, RI.nil _ _⟩, hEx⟩
end Wt

/- Walks: wittingref02.In; wittingref23.Same at equal lists. -/
namespace Wt
open Go Go.RowKit Go.Maps Go.Proofs Fm

set_option maxRecDepth 20000 in
set_option maxHeartbeats 1000000 in
theorem r23Same_any (l : List Nat) (a b : Option Addr) (c d : Nat) (w : World) (h1 : RI w a (natI l)) (h2 : RI w b (natI l)) :
    Calls Tryd.prog 28 #[.slice a l.length c, .slice b l.length d] w fun e w' => e = .returned (.bool true) ∧ Ext w w' := by
  have H1 := Lib.hid h1
  have H2 := Lib.hid h2
  have hl := h1.len
  rw [natI_ln] at hl
  clear h1 h2
  go_enter Tryd.func28, Tryd.ntmps28
  go_wp2
  go_loopw [5] (fun i wr => ∃ k : Nat, k ≤ l.length ∧ i = .int .i64 (k : Int) ∧ Ext w wr) (fun i _ => l.length - (RowKit.intOf i).toNat)
  case atStart => exact ⟨0, Nat.zero_le _, rfl, Ext.refl _⟩
  case round =>
    obtain ⟨k, hk, rfl, hE⟩ := hrel
    by_cases hlt : k < l.length
    · obtain ⟨b1, o1, rfl, hb1, hc1⟩ := (H1.out.ext hE).get (k := k) (by rw [natI_ln]; exact hlt)
      obtain ⟨b2, o2, rfl, hb2, hc2⟩ := (H2.out.ext hE).get (k := k) (by rw [natI_ln]; exact hlt)
      have hne : (nth (natI l) k != nth (natI l) k) = false := by simp
      have hlI : (k : Int) < (l.length : Int) := by omega
      go_wp2_with fail
      go_quiet (fail)
      go_wp2
      go_roundw
      case rel => exact ⟨k + 1, hlt, by go_num, hE.drewN _⟩
      case measure => simp [RowKit.intOf]; omega
    · go_wp2
      go_ret
      exact ⟨rfl, hE⟩
end Wt

/- Walks: wittinglaw23.few, example. -/
namespace Wt
open Go Go.RowKit Go.Maps Go.Proofs Fm

set_option maxHeartbeats 2000000 in
theorem few23_any (M : Mo) (va ra : Option Addr) (vc rc : Nat) (fa : Option Addr) (fc : Nat) (f : List Nd) (w : World) (hm : RM w va ra M) :
    Calls Tryd.prog 8 #[.agg #[.int .i64 M.worlds, .slice va M.val.length vc, .slice ra M.rel.length rc], .slice fa f.length fc] w fun e w' => RetB e w w' := by
  have hE0 := (Ext.refl w).alloc (.cells #[.int .i64 M.worlds, .slice va M.val.length vc, .slice ra M.rel.length rc] 25)
  have HF := Lib.hid (r13Few_any M va ra vc rc 10 _ (hm.ext hE0))
  have HE := Lib.hid hE0
  clear hE0 hm
  go_enter Tryd.func8, Tryd.ntmps8
  go_wp2_with fail
  refine HF.out.mono ?_
  rintro _ w1 ⟨b, rfl, hE1⟩
  dsimp only
  cases b
  · go_wp2_with fail
    go_ret
    exact ⟨_, rfl, HE.out.trans hE1⟩
  · go_wp2_with fail
    go_ret
    exact ⟨_, rfl, HE.out.trans hE1⟩
/-- The model of the chapter's example. -/
def exF : Mo := ⟨4, [8#64], [[2#64, 4#64, 8#64, 0#64]]⟩
set_option maxHeartbeats 1000000 in
theorem example23_any (w : World) : Calls Tryd.prog 27 #[] w fun e w' => RetM exF e w w' := by
  go_enter Tryd.func27, Tryd.ntmps27
  go_wp2
  have hE0 := (Ext.refl w).alloc (.cells #[.int .i64 4, .slice (some ⟨w.heap.size + 1, 0, none⟩) 1 1, .slice (some ⟨w.heap.size + 1 + 1 + 1, 0, none⟩) 1 1] 25)
  have c0 : (w.alloc (.cells #[.int .i64 4, .slice (some ⟨w.heap.size + 1, 0, none⟩) 1 1, .slice (some ⟨w.heap.size + 1 + 1 + 1, 0, none⟩) 1 1] 25)).cell? ⟨w.heap.size, 0, none⟩ = some (.int .i64 4) := by simp
  have c1 : (w.alloc (.cells #[.int .i64 4, .slice (some ⟨w.heap.size + 1, 0, none⟩) 1 1, .slice (some ⟨w.heap.size + 1 + 1 + 1, 0, none⟩) 1 1] 25)).cell? ⟨w.heap.size, 1, none⟩ = some (.slice (some ⟨w.heap.size + 1, 0, none⟩) 1 1) := by simp
  have c2 : (w.alloc (.cells #[.int .i64 4, .slice (some ⟨w.heap.size + 1, 0, none⟩) 1 1, .slice (some ⟨w.heap.size + 1 + 1 + 1, 0, none⟩) 1 1] 25)).cell? ⟨w.heap.size, 2, none⟩ = some (.slice (some ⟨w.heap.size + 1 + 1 + 1, 0, none⟩) 1 1) := by simp
  generalize hw0 : w.alloc (.cells #[.int .i64 4, .slice (some ⟨w.heap.size + 1, 0, none⟩) 1 1, .slice (some ⟨w.heap.size + 1 + 1 + 1, 0, none⟩) 1 1] 25) = w0 at *
  have s0 : w0.heap.size = w.heap.size + 1 := by rw [← hw0]; simp
  rw [← s0] at c1 c2 ⊢
  have u1 := RU.lit w0 [8#64] #[.int .u64 8] 40 rfl (by decide)
  have e1 := (Ext.refl w0).alloc (.cells #[.int .u64 8] 40)
  generalize hw1 : w0.alloc (.cells #[.int .u64 8] 40) = w1 at *
  have s1 : w1.heap.size = w0.heap.size + 1 := by rw [← hw1]; simp
  have u2 := RU.lit w1 [2#64, 4#64, 8#64, 0#64] #[.int .u64 2, .int .u64 4, .int .u64 8, .int .u64 0] 40 rfl (by decide)
  have e2 := (Ext.refl w1).alloc (.cells #[.int .u64 2, .int .u64 4, .int .u64 8, .int .u64 0] 40)
  generalize hw2 : w1.alloc (.cells #[.int .u64 2, .int .u64 4, .int .u64 8, .int .u64 0] 40) = w2 at *
  have s2 : w2.heap.size = w1.heap.size + 1 := by rw [← hw2]; simp
  rw [← s1, ← s2]
  rw [← s1, ← s2] at c2
  have e3 := (Ext.refl w2).alloc (.cells #[.slice (some ⟨w1.heap.size, 0, none⟩) 4 4] 22)
  have d0 : (w2.alloc (.cells #[.slice (some ⟨w1.heap.size, 0, none⟩) 4 4] 22)).cell? ⟨w2.heap.size, 0, none⟩ = some (.slice (some ⟨w1.heap.size, 0, none⟩) 4 4) := by simp
  generalize w2.alloc (.cells #[.slice (some ⟨w1.heap.size, 0, none⟩) 4 4] 22) = w3 at *
  have eA := (e1.trans e2).trans e3
  have k0 := eA.cell c0
  have k1 := eA.cell c1
  have k2 := eA.cell c2
  refine bodyPost_ret (v := .agg #[.int .i64 4, .slice (some ⟨w0.heap.size, 0, none⟩) 1 1, .slice (some ⟨w2.heap.size, 0, none⟩) 1 1]) ?_ rfl ?_
  · rw [results_cell_one rfl]
    go_simp
  · refine ⟨_, _, _, _, rfl, ⟨u1.ext (e2.trans e3), ⟨by decide, fun k hk => ?_⟩⟩, hE0.trans eA⟩
    obtain rfl : k = 0 := by have : k < 1 := hk; omega
    exact ⟨w2.heap.size, 0, some ⟨w1.heap.size, 0, none⟩, 4, rfl, d0, u2.ext e3⟩
end Wt

/- Plain: what the examples of the chapter come to. -/
namespace Wt
open Go Go.RowKit Go.Maps Go.Proofs Fm

/-- The formula of the example: agent 0 holds fact 0 possible. -/
def ex23P : List Nd := fB ⟨10, 0, 0, 0, 0, 0⟩ [fB ⟨3, 0, 0, 0, 0, 0⟩ []]
def ex23Q : List Nd := fB ⟨3, 0, 0, 0, 0, 0⟩ []
set_option maxRecDepth 100000 in
theorem aw_tab : lookErr exF ex23P = 0 ∧ lookErr exF ex23Q = 0 ∧ filC exF ex23P = [0, 0, 2, 3] ∧ filN exF ex23P = [0, 0, 1, 2] ∧ filSm exF ex23P = ⟨3, [4#64], [[3#64, 4#64, 0#64]]⟩ ∧ filLa exF ex23P false = ⟨3, [4#64], [[3#64, 7#64, 3#64]]⟩ ∧ filSm exF ex23Q = ⟨2, [2#64], [[3#64, 0#64]]⟩ ∧ filLa exF ex23Q false = ⟨2, [2#64], [[3#64, 3#64]]⟩ := by
  refine ⟨?_, ?_, ?_, ?_, ?_, ?_, ?_, ?_⟩ <;> decide +kernel
end Wt

/- Walks: wittingref02.Same at equal lists; wittinglaw23.has where it holds. -/
namespace Wt
open Go Go.RowKit Go.Maps Go.Proofs Fm

set_option maxRecDepth 20000 in
set_option maxHeartbeats 1000000 in
theorem r2Same_any (l : List (BitVec 64)) (a b : Option Addr) (c d : Nat) (w : World) (h1 : RU w a l) (h2 : RU w b l) :
    Calls Tryd.prog 68 #[.slice a l.length c, .slice b l.length d] w fun e w' => e = .returned (.bool true) ∧ Ext w w' := by
  have H1 := Lib.hid h1
  have H2 := Lib.hid h2
  have hl := h1.len
  clear h1 h2
  go_enter Tryd.func68, Tryd.ntmps68
  go_wp2
  go_loopw [5] (fun i wr => ∃ k : Nat, k ≤ l.length ∧ i = .int .i64 (k : Int) ∧ Ext w wr) (fun i _ => l.length - (RowKit.intOf i).toNat)
  case atStart => exact ⟨0, Nat.zero_le _, rfl, Ext.refl _⟩
  case round =>
    obtain ⟨k, hk, rfl, hE⟩ := hrel
    by_cases hlt : k < l.length
    · obtain ⟨b1, o1, rfl, hb1, hc1⟩ := (H1.out.ext hE).get hlt
      obtain ⟨b2, o2, rfl, hb2, hc2⟩ := (H2.out.ext hE).get hlt
      have hne : (un (nth l k) != un (nth l k)) = false := by simp
      have hlI : (k : Int) < (l.length : Int) := by omega
      go_wp2_with fail
      go_quiet (fail)
      go_wp2
      go_roundw
      case rel => exact ⟨k + 1, hlt, by go_num, hE.drewN _⟩
      case measure => simp [RowKit.intOf]; omega
    · go_wp2
      go_ret
      exact ⟨rfl, hE⟩
set_option maxRecDepth 20000 in
set_option maxHeartbeats 1000000 in
theorem has23_any (W : Int) (v : BitVec 64) (r : List (BitVec 64)) (va ra ua : Option Addr) (vc rc uc : Nat) (w : World) (hm : RM w va ra ⟨W, [v], [r]⟩) (hu : RU w ua r) :
    Calls Tryd.prog 29 #[.agg #[.int .i64 W, .slice va 1 vc, .slice ra 1 rc], .int .i64 0, .int .u64 (un v), .slice ua r.length uc] w fun e w' => e = .returned (.bool true) ∧ Ext w w' := by
  have hE0 := (Ext.refl w).alloc (.cells #[.int .i64 W, .slice va 1 vc, .slice ra 1 rc] 25)
  have hbx := MoBox.new w W [v] [r] va vc ra rc 25
  obtain ⟨m0, m1, m2⟩ := hbx
  obtain ⟨b1, o1, rfl, hb1, hc1⟩ := (hm.ext hE0).val.get (k := 0) (by simp)
  obtain ⟨b2, o2, a', c', rfl, hb2, hc2, hr⟩ := (hm.ext hE0).rel.get (k := 0) (by simp)
  have HR := Lib.hid hr
  have HU := Lib.hid (hu.ext hE0)
  have HE := Lib.hid hE0
  simp only [List.length_cons, List.length_nil, Nat.zero_add, Nat.add_zero] at m0 m1 m2 hc1 hc2
  change _ = some (Value.int IntKind.u64 (un v)) at hc1
  change _ = some (Value.slice a' r.length c') at hc2
  clear hr hu hm hE0
  go_enter Tryd.func29, Tryd.ntmps29
  go_wp2_with (go_at_call 68; refine (r2Same_any r _ _ _ _ _ HR.out HU.out).mono ?_; rintro _ w1 ⟨rfl, hE1⟩)
  go_ret
  exact ⟨rfl, HE.out.trans hE1⟩
end Wt

/- Walks: slices.IndexFunc and ContainsFunc over rows, for a function of any captures. -/
namespace Wt
open Go Go.RowKit Go.Maps Go.Proofs Fm

set_option maxHeartbeats 1000000 in
theorem indexFunc_g (F : Nat) (caps : List Value) (p : List (BitVec 64) → Bool) (a : Option Addr) (l : List (List (BitVec 64))) (cap : Nat) (w : World) (hr : RR w a l)
    (hF : ∀ args W, (callFunc F args).run Tryd.prog W = .ok (.enter F args) W)
    (hp : ∀ W a s c', Ext w W → RU W a s → Calls Tryd.prog F (.slice a s.length c' :: caps).toArray W fun e w' => e = .returned (.bool (p s)) ∧ Ext W w') :
    Calls Tryd.prog 80 #[.slice a l.length cap, .func (.func F) #[] caps.toArray] w fun e w' => (∃ i : Int, e = .returned (.int .i64 i) ∧ decide (0 ≤ i) = l.any p) ∧ Ext w w' := by
  have hl := hr.len
  have Hp := Lib.hid hp
  clear hp
  go_enter Tryd.func80, Tryd.ntmps80
  go_wp2
  go_loopw [8] (fun i wr => ∃ k : Nat, k ≤ l.length ∧ i = .int .i64 k ∧ Ext w wr ∧ Hid (∀ j, j < k → p (nth l j) = false)) (fun i _ => l.length - (RowKit.intOf i).toNat)
  case atStart => exact ⟨0, Nat.zero_le _, rfl, Ext.refl _, fun _ h => absurd h (Nat.not_lt_zero _)⟩
  case round =>
    obtain ⟨k, hk, rfl, hE, hno⟩ := hrel
    by_cases hlt : k < l.length
    · obtain ⟨b, off, a', c', rfl, hc, hu⟩ := (hr.ext hE).at_ k hlt
      go_wp2_with fail
      refine (Hp.out _ _ _ _ hE hu).mono ?_
      rintro e w1 ⟨rfl, hE1⟩
      cases hb : p (nth l k)
      all_goals have Hb := Lib.hid hb; clear hb
      · go_wp2
        go_roundw
        case rel => exact ⟨k + 1, hlt, by go_num, hE.trans hE1, lt_step hno Hb.out⟩
        case measure => simp [RowKit.intOf]; omega
      · go_wp2
        go_ret
        exact ⟨⟨k, rfl, by rw [any_yes hlt Hb.out]; simp⟩, hE.trans hE1⟩
    · go_wp2
      go_ret
      exact ⟨⟨-1, rfl, by rw [any_no (fun j hj => hno j (by omega))]; rfl⟩, hE⟩
set_option maxHeartbeats 1000000 in
theorem containsFunc_g (F : Nat) (caps : List Value) (p : List (BitVec 64) → Bool) (a : Option Addr) (l : List (List (BitVec 64))) (cap : Nat) (w : World) (hr : RR w a l)
    (hF : ∀ args W, (callFunc F args).run Tryd.prog W = .ok (.enter F args) W)
    (hp : ∀ W a s c', Ext w W → RU W a s → Calls Tryd.prog F (.slice a s.length c' :: caps).toArray W fun e w' => e = .returned (.bool (p s)) ∧ Ext W w') :
    Calls Tryd.prog 38 #[.slice a l.length cap, .func (.func F) #[] caps.toArray] w fun e w' => e = .returned (.bool (l.any p)) ∧ Ext w w' := by
  have Hi := Lib.hid (indexFunc_g F caps p a l cap w hr hF hp)
  clear hF hp
  go_enter Tryd.func38, Tryd.ntmps38
  go_wp2_with (go_at_call 80; refine (Hi.out).mono ?_; rintro e w1 ⟨⟨i, rfl, hi⟩, hE⟩; have HI := Lib.hid hi; clear hi)
  go_ret
  exact ⟨by rw [← HI.out]; simp, hE⟩
theorem cf_trans1 (args : Array Value) (W : World) : (callFunc 39 args).run Tryd.prog W = .ok (.enter 39 args) W := by
  simp [callFunc, Tryd.func39, Tryd.f39]
end Wt
