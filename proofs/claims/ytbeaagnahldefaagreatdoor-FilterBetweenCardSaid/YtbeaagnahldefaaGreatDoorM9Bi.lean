/- Walks: the conditions that filter.Smallest, Largest and Transitive hand to build. -/
import Derived.Test.YtbeaagnahldefaaGreatDoorM9Bg
import Derived.Test.YtbeaagnahldefaaGreatDoorM9Bh
import Derived.BigQuiet
import Derived.Deep.QuietTactic
import Derived.Test.YtbeaagnahldefaaGreatDoorM9Bf
namespace Wt
open Go Go.RowKit Go.Maps Go.Proofs Fm

theorem nat_beq (a b : Nat) : (((a : Nat) : Int) == (b : Int)) = (a == b) := by
  rw [Bool.eq_iff_iff, beq_iff_eq, beq_iff_eq]; omega
theorem any_snoc {k : Nat} {F : Nat → Bool} (h : ((List.range k).any F) = false) (h2 : F k = false) : ((List.range (k + 1)).any F) = false := by
  rw [List.range_succ, List.any_append, h]; simp [h2]
theorem any_hit {n k : Nat} {F : Nat → Bool} (hk : k < n) (h : F k = true) : (List.range n).any F = true := List.any_eq_true.2 ⟨k, List.mem_range.2 hk, h⟩
set_option maxRecDepth 20000 in
set_option maxHeartbeats 8000000 in
theorem small1_any (M : Mo) (N : Nat) (L : List (BitVec 64)) (va ra : Option Addr) (vc rc bl bm gp a x y : Nat) (w : World) (ok : MoOk M N) (hl : w.cell? ⟨bl, 0, none⟩ = some (.slice (some ⟨gp, 0, none⟩) N N)) (hlo : RI w (some ⟨gp, 0, none⟩) (natI (lowL L N))) (hb : MoBox w bm ⟨M.worlds, M.val, M.rel⟩ va vc ra rc) (hm : RM w va ra M) (ha : a < M.rel.length) :
    Calls Tryz.prog 35 #[.int .i64 (a : Int), .int .i64 (x : Int), .int .i64 (y : Int), .pointer (some ⟨bl, 0, none⟩), .pointer (some ⟨bm, 0, none⟩)] w fun e w' => e = .returned (.bool (relS M L N a x y)) ∧ w = w' := by
  have HLO := Lib.hid hlo
  have h64 := ok.most
  have hlb := World.block_lt_of_cell? _ _ hl
  obtain ⟨m0, m1, m2⟩ := hb
  dsimp only at m0 m1 m2 hlb
  obtain ⟨b1, o1, a', c', rfl, hb1, hc1, hu⟩ := hm.rel.get ha
  have hrl : (nth M.rel a).length = N := ok.row _ (by rw [nth_eq _ _ ha]; exact List.getElem_mem _)
  have HU := Lib.hid hu
  have HRS : Hid (relS M L N a x y = (List.range N).any fun w => (List.range N).any fun u => lowOf L w == x && lowOf L u == y && bt (nth (nth M.rel a) w) u) := Lib.hid rfl
  have HLL : Hid ((lowL L N).length = N) := Lib.hid (lowL_len L N)
  have HLN : Hid (∀ k, k < N → nth (lowL L N) k = lowOf L k) := Lib.hid fun k hk => lowL_nth L hk
  have hmr := hm.rel.len
  generalize relS M L N a x y = rs at *
  clear hlo hu hm ok
  go_enter Tryz.func35, Tryz.ntmps35
  go_wp2_with fail
  go_loop [15] (fun i => ∃ k : Nat, k ≤ N ∧ i = .int .i64 (k : Int) ∧ Hid (((List.range k).any fun w => (List.range N).any fun u => lowOf L w == x && lowOf L u == y && bt (nth (nth M.rel a) w) u) = false)) (fun i => N - (RowKit.intOf i).toNat)
  case atStart => exact ⟨0, Nat.zero_le _, rfl, Lib.hid rfl⟩
  case round =>
    obtain ⟨k, hk, rfl, HK⟩ := hrel
    by_cases hkN : k < N
    · obtain ⟨b2, o2, e2, hb2, hc2⟩ := HLO.out.get (k := k) (by rw [natI_ln, HLL.out]; exact hkN)
      cases e2
      rw [nth_natI (by rw [HLL.out]; exact hkN), HLN.out k hkN, Nat.zero_add] at hc2
      obtain ⟨b3, o3, rfl, hb3, hc3⟩ := HU.out.get (k := k) (by rw [hrl]; exact hkN)
      go_wp2_with fail
      generalize hlk : lowOf L k = lk at *
      have HLK := Lib.hid hlk
      clear hlk
      obtain ⟨G, hG⟩ : ∃ G : Nat → Bool, G = fun u => lk == x && lowOf L u == y && bt (nth (nth M.rel a) k) u := ⟨_, rfl⟩
      have HG := Lib.hid hG
      have HGJ : Hid (∀ j, G j = (lk == x && lowOf L j == y && bt (nth (nth M.rel a) k) j)) := Lib.hid fun j => by rw [hG]
      clear hG
      go_loop [22] (fun i => ∃ j : Nat, j ≤ N ∧ i = .int .i64 (j : Int) ∧ Hid (((List.range j).any G) = false)) (fun i => N - (RowKit.intOf i).toNat)
      case atStart => exact ⟨0, Nat.zero_le _, rfl, Lib.hid rfl⟩
      case round =>
        obtain ⟨j, hj, rfl, HJ⟩ := hrel
        by_cases hjN : j < N
        · obtain ⟨b4, o4, e4, hb4, hc4⟩ := HLO.out.get (k := j) (by rw [natI_ln, HLL.out]; exact hjN)
          cases e4
          rw [nth_natI (by rw [HLL.out]; exact hjN), HLN.out j hjN, Nat.zero_add] at hc4
          have hj64 : j < 64 := by omega
          have hbu := bit_un (nth (nth M.rel a) k) j
          generalize hlj : lowOf L j = lj at *
          have HLJ := Lib.hid hlj
          clear hlj
          have he1 := nat_beq lk x
          have he2 := nat_beq lj y
          cases q1 : (lk == x) <;> cases q2 : (lj == y) <;> cases q3 : bt (nth (nth M.rel a) k) j
          all_goals
            rw [q1] at he1
            rw [q2] at he2
            rw [q3] at hbu
            simp only [b01I, if_true, if_false, Bool.false_eq_true] at hbu
            have Q1 := Lib.hid q1
            have Q2 := Lib.hid q2
            have Q3 := Lib.hid q3
            clear q1 q2 q3
            go_wp2_with fail
            first
            | (go_round
               case rel => exact ⟨j + 1, hjN, by go_num, Lib.hid (any_snoc HJ.out (by rw [HGJ.out, HLJ.out, Q1.out, Q2.out, Q3.out]; rfl))⟩
               case measure => simp [RowKit.intOf]; omega)
            | (go_ret
               exact ⟨by rw [HRS.out, any_hit hkN (any_hit hjN (by show (lowOf L k == x && lowOf L j == y && bt (nth (nth M.rel a) k) j) = true; rw [HLK.out, HLJ.out, Q1.out, Q2.out, Q3.out]; rfl))]; rfl, by first | rfl | trivial⟩)
        · obtain rfl : N = j := by omega
          have HKN : Hid (((List.range (k + 1)).any fun w => (List.range N).any fun u => lowOf L w == x && lowOf L u == y && bt (nth (nth M.rel a) w) u) = false) := Lib.hid (any_snoc HK.out (by show ((List.range N).any fun u => lowOf L k == x && lowOf L u == y && bt (nth (nth M.rel a) k) u) = false; rw [HLK.out, ← HG.out]; exact HJ.out))
          go_wp2_with fail
          go_round
          case rel => exact ⟨k + 1, hkN, by go_num, HKN⟩
          case measure => simp [RowKit.intOf]; omega
    · obtain rfl : N = k := by omega
      go_wp2_with fail
      go_ret
      exact ⟨by rw [HRS.out, HK.out]; rfl, rfl⟩
set_option maxHeartbeats 2000000 in
theorem large1_any (b : Nat) (W : Int) (L : List (BitVec 64)) (c : List Nd) (va ra ca sa : Option Addr) (vl vc rl rc cc sc : Nat) (w : World) (hv : VwAt w b W va ra ca sa vl vc rl rc c.length cc L.length sc) (hn : RN w ca c) (hs : RU w sa L) (hcl : L.length = c.length) (hbx : boxOk c) (a x y bv : Nat) (hx : x < 64) (hy : y < 64) (hbv : w.cell? ⟨bv, 0, none⟩ = some (.pointer (some ⟨b, 0, none⟩))) :
    Calls Tryz.prog 38 #[.int .i64 (a : Int), .int .i64 (x : Int), .int .i64 (y : Int), .pointer (some ⟨bv, 0, none⟩)] w fun e w' => e = .returned (.bool (permL L c false a x y)) ∧ Ext w w' := by
  have HP := Lib.hid (permits_any b W L c va ra ca sa vl vc rl rc cc sc w hv hn hs hcl hbx a x y hx hy false)
  have hlb := World.block_lt_of_cell? _ _ hbv
  dsimp only at hlb
  clear hv hn hs hcl hbx
  go_enter Tryz.func38, Tryz.ntmps38
  go_wp2_with (go_at_call 39; refine HP.out.mono ?_; rintro _ w1 ⟨rfl, hE⟩)
  go_ret
  exact ⟨rfl, hE⟩
set_option maxHeartbeats 2000000 in
theorem trans2_any (b : Nat) (W : Int) (L : List (BitVec 64)) (c : List Nd) (va ra ca sa : Option Addr) (vl vc rl rc cc sc : Nat) (w : World) (hv : VwAt w b W va ra ca sa vl vc rl rc c.length cc L.length sc) (hn : RN w ca c) (hs : RU w sa L) (hcl : L.length = c.length) (hbx : boxOk c) (a x y bv : Nat) (hx : x < 64) (hy : y < 64) (hbv : w.cell? ⟨bv, 0, none⟩ = some (.pointer (some ⟨b, 0, none⟩))) :
    Calls Tryz.prog 44 #[.int .i64 (a : Int), .int .i64 (x : Int), .int .i64 (y : Int), .pointer (some ⟨bv, 0, none⟩)] w fun e w' => e = .returned (.bool (permL L c true a x y)) ∧ Ext w w' := by
  have HP := Lib.hid (permits_any b W L c va ra ca sa vl vc rl rc cc sc w hv hn hs hcl hbx a x y hx hy true)
  have hlb := World.block_lt_of_cell? _ _ hbv
  dsimp only at hlb
  clear hv hn hs hcl hbx
  go_enter Tryz.func44, Tryz.ntmps44
  go_wp2_with (go_at_call 39; refine HP.out.mono ?_; rintro _ w1 ⟨rfl, hE⟩)
  go_ret
  exact ⟨rfl, hE⟩
theorem cf_small1 (args : Array Value) (W : World) : (callFunc 35 args).run Tryz.prog W = .ok (.enter 35 args) W := by
  simp [callFunc, Tryz.func35, Tryz.f35]
theorem cf_large1 (args : Array Value) (W : World) : (callFunc 38 args).run Tryz.prog W = .ok (.enter 38 args) W := by
  simp [callFunc, Tryz.func38, Tryz.f38]
theorem cf_trans2 (args : Array Value) (W : World) : (callFunc 44 args).run Tryz.prog W = .ok (.enter 44 args) W := by
  simp [callFunc, Tryz.func44, Tryz.f44]
end Wt

/- Walks: filter.Classes, filter.Smallest, filter.Largest. -/
namespace Wt
open Go Go.RowKit Go.Maps Go.Proofs Fm

/-- A list of worlds and an error. -/
def RetLi (l : List Nat) (c : Int) (e : Ending) (w w' : World) : Prop := ∃ a cp, e = .returned (.tuple #[.slice a l.length cp, .int .i64 c]) ∧ RI w' a (natI l) ∧ Ext w w'
/-- The classes. -/
def filC (M : Mo) (f : List Nd) : List Nat := if lookErr M f = 0 then lowL (subL M (rt f)) M.worlds.toNat else []
/-- The class of each world, as a number. -/
def filN (M : Mo) (f : List Nd) : List Nat := if lookErr M f = 0 then (List.range M.worlds.toNat).map (clsOf (subL M (rt f)) M.worlds.toNat) else []
def filSm (M : Mo) (f : List Nd) : Mo := if lookErr M f = 0 then filM M (fFacts f) (repL (subL M (rt f)) M.worlds.toNat) (relS M (subL M (rt f)) M.worlds.toNat) else ⟨0, [], []⟩
def filLa (M : Mo) (f : List Nd) (keep : Bool) : Mo := if lookErr M f = 0 then filM M (fFacts f) (repL (subL M (rt f)) M.worlds.toNat) (permL (subL M (rt f)) (canon (rt f)) keep) else ⟨0, [], []⟩
/-- What there is to know of a right model and formula. -/
structure Vok (M : Mo) (f : List Nd) (N : Nat) : Prop where
  vw : Vw M (rt f) N
  len : (subL M (rt f)).length ≤ 200
  cc : fCompact f = canon (rt f)
  same : (subL M (rt f)).length = (fCompact f).length
  fx : fFacts (fCompact f) = fFacts f
  box : boxOk (fCompact f)
  nn : M.worlds.toNat = N
theorem vok_of {M : Mo} {f : List Nd} (h : lookErr M f = 0) : ∃ N, Vok M f N := by
  obtain ⟨h1, h2, h3, N, hv⟩ := look_sets h
  obtain ⟨k1, k2, k3, k4⟩ := lookErr_ok h
  refine ⟨N, hv, by rw [subL_len, ← h2]; exact h3, h2, by rw [subL_len, h2], ?_, ?_, by rw [hv.ok.worlds]; rfl⟩
  · unfold fFacts; rw [(compact_twice k2).2]
  · intro k hk ho
    rw [h2] at hk ho ⊢
    have hx := (node_un hv.fk hk ho).1
    have hw := canon_wf _ hv.fk
    have hxx : (useOf (nth (canon (rt f)) k).op).1.x = true := by rcases ho with h | h <;> rw [h] <;> rfl
    exact ⟨hx, (hw.x_lt hk hxx).1⟩
theorem agree_end {B B' b : Nat} {w4 w'' : World} {o : Obj} {x y z : Value} (hb : b < B') (hB : B ≤ B') (h : Agree B ((((w4.alloc o).setCell ⟨b, 0, none⟩ x).setCell ⟨b, 1, none⟩ y).setCell ⟨b, 2, none⟩ z) w'') : Agree B' w4 w'' := fun k hk hl => by
  rw [h k (by omega) (by simp; omega), heap_setCell_other _ ⟨b, 2, none⟩ k _ (by simp; omega), heap_setCell_other _ ⟨b, 1, none⟩ k _ (by simp; omega), heap_setCell_other _ ⟨b, 0, none⟩ k _ (by simp; omega), Below.heap_alloc _ _ _ hl]
set_option maxRecDepth 20000 in
set_option maxHeartbeats 4000000 in
theorem fClasses_any (M : Mo) (va ra : Option Addr) (vc rc : Nat) (fa : Option Addr) (fc : Nat) (f : List Nd) (w : World) (hm : RM w va ra M) (hf : RN w fa f) :
    Calls Tryz.prog 9 #[.agg #[.int .i64 M.worlds, .slice va M.val.length vc, .slice ra M.rel.length rc], .slice fa f.length fc] w fun e w' => RetLi (filC M f) (lookErr M f) e w w' := by
  have hE0 := (Ext.refl w).alloc (.cells #[.int .i64 M.worlds, .slice va M.val.length vc, .slice ra M.rel.length rc] 25)
  obtain ⟨m0, m1, m2⟩ := MoBox.new w M.worlds M.val M.rel va vc ra rc 25
  have HE := Lib.hid hE0
  have HM := Lib.hid (hm.ext hE0)
  have HF := Lib.hid (hf.ext hE0)
  clear hE0 hf hm
  by_cases hl : lookErr M f = 0
  · obtain ⟨N, vk⟩ := vok_of hl
    have HVK := Lib.hid vk
    have HL := Lib.hid hl
    have HC : Hid (filC M f = lowL (subL M (rt f)) N) := Lib.hid (by unfold filC; rw [if_pos hl, vk.nn])
    have HLK : Hid (∀ W, RM W va ra M → RN W fa f → Calls Tryz.prog 28 #[.agg #[.int .i64 M.worlds, .slice va M.val.length vc, .slice ra M.rel.length rc], .slice fa f.length fc] W fun e w' => RetV5 M va ra vc rc f e W w') := Lib.hid fun W h1 h2 => look_any M va ra vc rc fa fc f W h1 h2 hl
    clear hl vk
    go_enter Tryz.func9, Tryz.ntmps9
    go_wp2_with fail
    refine (HLK.out _ HM.out HF.out).mono ?_
    rintro _ w1 ⟨b, ca, sa, cc, sc, rfl, hb, hv, hn, hs, hE1⟩
    rw [HVK.out.vw.ok.worlds] at hv
    have HV := Lib.hid hv
    have HS := Lib.hid hs
    have HE1 := Lib.hid (HE.out.trans hE1)
    clear hb hv hn hs hE1 m0 m1 m2
    dsimp only
    go_wp2_with fail
    refine (classes_any N b (subL M (rt f)) va ra ca sa _ vc _ rc _ cc sc w1 HV.out HS.out HVK.out.vw.ok.most HVK.out.len).mono ?_
    rintro _ w2 ⟨g, rfl, ho, hE2⟩
    dsimp only
    go_wp2_with fail
    go_ret2
    exact ⟨some ⟨g, 0, none⟩, N, by rw [HC.out, lowL_len, HL.out]; rfl, by rw [HC.out]; exact RI_of_OG ho (by have := HVK.out.vw.ok.most; omega), HE1.out.trans hE2⟩
  · have HLK : Hid (∀ W, RM W va ra M → RN W fa f → Calls Tryz.prog 28 #[.agg #[.int .i64 M.worlds, .slice va M.val.length vc, .slice ra M.rel.length rc], .slice fa f.length fc] W fun e w' => e = .returned (.tuple #[.pointer none, .int .i64 (lookErr M f)]) ∧ Ext W w') := Lib.hid fun W h1 h2 => lookNo_any M va ra vc rc fa fc f W h1 h2 hl
    have HC : Hid (filC M f = []) := Lib.hid (if_neg hl)
    have hq : (lookErr M f != 0) = true := by simpa using hl
    clear hl
    generalize lookErr M f = er at *
    go_enter Tryz.func9, Tryz.ntmps9
    go_wp2_with fail
    refine (HLK.out _ HM.out HF.out).mono ?_
    rintro _ w1 ⟨rfl, hE1⟩
    dsimp only
    go_wp2_with fail
    go_ret2
    exact ⟨none, 0, by rw [HC.out]; rfl, by rw [HC.out]; exact RI.nil _ _, HE.out.trans hE1⟩
end Wt

/- Walks: filter.Smallest, filter.Largest (printed by gen_fli.py). -/
namespace Wt
open Go Go.RowKit Go.Maps Go.Proofs Fm

theorem agree_end2 {B B' b : Nat} {w4 w'' : World} {o : Obj} {x y z : Value} (hb : b < B') (hB : B ≤ B') (h : Agree B ((((w4.setCell ⟨b, 0, none⟩ x).setCell ⟨b, 1, none⟩ y).setCell ⟨b, 2, none⟩ z).alloc o) w'') : Agree B' w4 w'' := fun k hk hl => by
  rw [h k (by omega) (by simp; omega), Below.heap_alloc _ _ _ (by simp; omega), heap_setCell_other _ ⟨b, 2, none⟩ k _ (by simp; omega), heap_setCell_other _ ⟨b, 1, none⟩ k _ (by simp; omega), heap_setCell_other _ ⟨b, 0, none⟩ k _ (by simp; omega)]
set_option maxRecDepth 20000 in
set_option maxHeartbeats 8000000 in
theorem smallest_any (M : Mo) (va ra : Option Addr) (vc rc : Nat) (fa : Option Addr) (fc : Nat) (f : List Nd) (w : World) (hm : RM w va ra M) (hf : RN w fa f) :
    Calls Tryz.prog 12 #[.agg #[.int .i64 M.worlds, .slice va M.val.length vc, .slice ra M.rel.length rc], .slice fa f.length fc] w fun e w' => RetR (filSm M f) (natI (filN M f)) (lookErr M f) e w w' := by
  have hE0 := ((Ext.refl w).alloc (.cells #[.int .i64 M.worlds, .slice va M.val.length vc, .slice ra M.rel.length rc] 25)).alloc (.cells #[.int .i64 0, .slice none 0 0, .slice none 0 0] 25)
  have hbx := (MoBox.new w M.worlds M.val M.rel va vc ra rc 25).ext ((Ext.refl _).alloc (.cells #[.int .i64 0, .slice none 0 0, .slice none 0 0] 25))
  have hr0 := OutAt.new1 w (.cells #[.int .i64 M.worlds, .slice va M.val.length vc, .slice ra M.rel.length rc] 25) (.int .i64 0) (.slice none 0 0) (.slice none 0 0) 25
  have HE := Lib.hid hE0
  have HM := Lib.hid (hm.ext hE0)
  have HF := Lib.hid (hf.ext hE0)
  have HB := Lib.hid hbx
  have HR := Lib.hid hr0
  have hs0 : ((w.alloc (.cells #[.int .i64 M.worlds, .slice va M.val.length vc, .slice ra M.rel.length rc] 25)).alloc (.cells #[.int .i64 0, .slice none 0 0, .slice none 0 0] 25)).heap.size = w.heap.size + 2 := by simp
  have HSZ := Lib.hid hs0
  obtain ⟨m0, m1, m2⟩ := hbx
  dsimp only at m0 m1 m2
  clear hE0 hf hm hr0 hs0
  by_cases hl : lookErr M f = 0
  · obtain ⟨N, vk⟩ := vok_of hl
    have HVK := Lib.hid vk
    have HL := Lib.hid hl
    have HC : Hid (filN M f = (List.range N).map (clsOf (subL M (rt f)) N)) := Lib.hid (by unfold filN; rw [if_pos hl, vk.nn])
    have HA : Hid (filSm M f = filM M (fFacts (fCompact f)) (repL (subL M (rt f)) N) (relS M (subL M (rt f)) N)) := Lib.hid (by unfold filSm; rw [if_pos hl, vk.nn, vk.fx])
    have HLK : Hid (∀ W, RM W va ra M → RN W fa f → Calls Tryz.prog 28 #[.agg #[.int .i64 M.worlds, .slice va M.val.length vc, .slice ra M.rel.length rc], .slice fa f.length fc] W fun e w' => RetV5 M va ra vc rc f e W w') := Lib.hid fun W h1 h2 => look_any M va ra vc rc fa fc f W h1 h2 hl
    clear hl vk
    go_enter Tryz.func12, Tryz.ntmps12
    go_wp2_with fail
    generalize (w.alloc (.cells #[.int .i64 M.worlds, .slice va M.val.length vc, .slice ra M.rel.length rc] 25)).alloc (.cells #[.int .i64 0, .slice none 0 0, .slice none 0 0] 25) = w0 at *
    refine (HLK.out _ HM.out HF.out).mono ?_
    rintro _ w1 ⟨b, ca, sa, cc, sc, rfl, hb, hv, hn, hs, hE1⟩
    rw [HVK.out.vw.ok.worlds] at hv
    have HV := Lib.hid hv
    have HN := Lib.hid hn
    have HS := Lib.hid hs
    have HE1 := Lib.hid hE1
    clear hb hv hn hs hE1 m0 m1 m2
    dsimp only
    go_wp2_with fail
    refine (classes_any N b (subL M (rt f)) va ra ca sa _ vc _ rc _ cc sc w1 HV.out HS.out HVK.out.vw.ok.most HVK.out.len).mono ?_
    rintro _ w2 ⟨gp, rfl, ho, hE2⟩
    have HO := Lib.hid ho
    have HE2 := Lib.hid (HE1.out.trans hE2)
    have HEx := Lib.hid hE2
    clear ho hE2
    dsimp only
    go_wp2_with fail
    have hE3 : Ext w2 (w2.alloc (.cells #[.slice (some ⟨gp, 0, none⟩) N N] 29)) := (Ext.refl w2).alloc _
    have hc3 : (w2.alloc (.cells #[.slice (some ⟨gp, 0, none⟩) N N] 29)).cell? ⟨w2.heap.size, 0, none⟩ = some (.slice (some ⟨gp, 0, none⟩) N N) := by simp
    have HC3 := Lib.hid hc3
    have HE3 := Lib.hid (HE2.out.trans hE3)
    have HEy := Lib.hid (HEx.out.trans hE3)
    have HEz := Lib.hid hE3
    clear hE3 hc3
    generalize w2.alloc (.cells #[.slice (some ⟨gp, 0, none⟩) N N] 29) = w3 at *
    refine (fbuild_any M N b (fCompact f) (subL M (rt f)) (relS M (subL M (rt f)) N) 35 [.pointer (some ⟨w2.heap.size, 0, none⟩), .pointer (some ⟨w.heap.size, 0, none⟩)] va ra ca sa vc rc cc sc w3 (HV.out.ext HEy.out) (HM.out.ext HE3.out) (HN.out.ext HEy.out) (HS.out.ext HEy.out) HVK.out.vw.ok.most HVK.out.len HVK.out.vw.ok.val HVK.out.vw.ok.rel cf_small1 ?_).mono ?_
    · intro W a x y e ha _ _
      refine (small1_any M N (subL M (rt f)) va ra vc rc w2.heap.size w.heap.size gp a x y W HVK.out.vw.ok (e.cell HC3.out) ((RI_of_OG HO.out (by have := HVK.out.vw.ok.most; omega)).ext (HEz.out.trans e)) (HB.out.ext (HE3.out.trans e)) (HM.out.ext (HE3.out.trans e)) ha).mono ?_
      rintro _ _ ⟨h1, rfl⟩
      exact ⟨h1, Ext.refl _⟩
    rintro _ w4 ⟨v4, r4, l4, c4, d4, e4, rfl, hk4, hE4⟩
    rw [← HA.out, ← HC.out] at hk4 ⊢
    have hwb : w.heap.size + 1 < w3.heap.size := by have := (HE3.out).size; have := HSZ.out; omega
    have HH := Lib.hid (HR.out.ext (HE3.out.trans hE4))
    have HK4 := Lib.hid hk4
    have HE4 := Lib.hid ((HE.out.trans HE3.out).trans hE4)
    have HWB := Lib.hid hwb
    clear hk4 hE4 hwb
    generalize hqm : filSm M f = QM at *
    generalize hql : filN M f = QL at *
    have HQM := Lib.hid hqm
    have HQL := Lib.hid hql
    clear hqm hql
    obtain ⟨r0, rr1, rr2, rfz⟩ := HH.out
    have f0 := rfz 0
    have f1 := rfz 1
    have f2 := rfz 2
    have hrl9 := HH.out.lt
    clear rfz
    dsimp only
    go_wp2_with fail
    have HX := (((HH.out.set0 (.int .i64 QM.worlds)).set1 (.slice v4 QM.val.length c4)).set2 (.slice r4 QM.rel.length d4)).ext ((Ext.refl _).alloc (.cells #[.int .i64 QM.worlds, .slice v4 QM.val.length c4, .slice r4 QM.rel.length d4] 25))
    obtain ⟨d0, d1, d2, -⟩ := HX
    have hEx : Ext w ((((w4.setCell ⟨w.heap.size + 1, 0, none⟩ (.int .i64 QM.worlds)).setCell ⟨w.heap.size + 1, 1, none⟩ (.slice v4 QM.val.length c4)).setCell ⟨w.heap.size + 1, 2, none⟩ (.slice r4 QM.rel.length d4)).alloc (.cells #[.int .i64 QM.worlds, .slice v4 QM.val.length c4, .slice r4 QM.rel.length d4] 25)) := (((HE4.out.setCell (by simp) _).setCell (by simp) _).setCell (by simp) _).alloc _
    have hkF : ∀ w'', Agree w.heap.size ((((w4.setCell ⟨w.heap.size + 1, 0, none⟩ (.int .i64 QM.worlds)).setCell ⟨w.heap.size + 1, 1, none⟩ (.slice v4 QM.val.length c4)).setCell ⟨w.heap.size + 1, 2, none⟩ (.slice r4 QM.rel.length d4)).alloc (.cells #[.int .i64 QM.worlds, .slice v4 QM.val.length c4, .slice r4 QM.rel.length d4] 25)) w'' → RM w'' v4 r4 QM ∧ RI w'' l4 (natI QL) := fun w'' hg => HK4.out w'' (agree_end2 HWB.out (by have := HWB.out; omega) hg)
    generalize (((w4.setCell ⟨w.heap.size + 1, 0, none⟩ (.int .i64 QM.worlds)).setCell ⟨w.heap.size + 1, 1, none⟩ (.slice v4 QM.val.length c4)).setCell ⟨w.heap.size + 1, 2, none⟩ (.slice r4 QM.rel.length d4)).alloc (.cells #[.int .i64 QM.worlds, .slice v4 QM.val.length c4, .slice r4 QM.rel.length d4] 25) = W2 at *
    refine bodyPost_ret (v := .tuple #[.agg #[.int .i64 QM.worlds, .slice v4 QM.val.length c4, .slice r4 QM.rel.length d4], .slice l4 QL.length e4, .int .i64 0]) ?_ rfl ?_
    · rw [results_cell_two rfl]
      go_simp
    · rw [HQM.out, HQL.out]
      exact ⟨v4, r4, l4, c4, d4, e4, by rw [HL.out, natI_ln], hkF, hEx⟩
  · have HLK : Hid (∀ W, RM W va ra M → RN W fa f → Calls Tryz.prog 28 #[.agg #[.int .i64 M.worlds, .slice va M.val.length vc, .slice ra M.rel.length rc], .slice fa f.length fc] W fun e w' => e = .returned (.tuple #[.pointer none, .int .i64 (lookErr M f)]) ∧ Ext W w') := Lib.hid fun W h1 h2 => lookNo_any M va ra vc rc fa fc f W h1 h2 hl
    have HC : Hid (filN M f = []) := Lib.hid (if_neg hl)
    have HA : Hid (filSm M f = ⟨0, [], []⟩) := Lib.hid (if_neg hl)
    have hq : (lookErr M f != 0) = true := by simpa using hl
    clear hl
    generalize hle : lookErr M f = er at *
    clear hle
    go_enter Tryz.func12, Tryz.ntmps12
    go_wp2_with fail
    generalize (w.alloc (.cells #[.int .i64 M.worlds, .slice va M.val.length vc, .slice ra M.rel.length rc] 25)).alloc (.cells #[.int .i64 0, .slice none 0 0, .slice none 0 0] 25) = w0 at *
    refine (HLK.out _ HM.out HF.out).mono ?_
    rintro _ w1 ⟨rfl, hE1⟩
    have HH := Lib.hid (HR.out.ext hE1)
    have HE1 := Lib.hid (HE.out.trans hE1)
    clear hE1 m0 m1 m2
    obtain ⟨r0, rr1, rr2, rfz⟩ := HH.out
    have f0 := rfz 0
    have f1 := rfz 1
    have f2 := rfz 2
    have hrl9 := HH.out.lt
    clear rfz
    dsimp only
    go_wp2_with fail
    obtain ⟨d0, d1, d2, -⟩ := ((HH.out.set0 (.int .i64 0)).set1 (.slice none 0 0)).set2 (.slice none 0 0)
    have hEx : Ext w ((((w1.setCell ⟨w.heap.size + 1, 0, none⟩ (.int .i64 0)).setCell ⟨w.heap.size + 1, 1, none⟩ (.slice none 0 0)).setCell ⟨w.heap.size + 1, 2, none⟩ (.slice none 0 0))) := (((HE1.out.setCell (by simp) _).setCell (by simp) _).setCell (by simp) _)
    generalize (((w1.setCell ⟨w.heap.size + 1, 0, none⟩ (.int .i64 0)).setCell ⟨w.heap.size + 1, 1, none⟩ (.slice none 0 0)).setCell ⟨w.heap.size + 1, 2, none⟩ (.slice none 0 0)) = W2 at *
    refine bodyPost_ret (v := .tuple #[.agg #[.int .i64 0, .slice none 0 0, .slice none 0 0], .slice none 0 0, .int .i64 er]) ?_ rfl ?_
    · rw [results_cell_two rfl]
      go_simp
    · rw [HA.out, HC.out]
      exact ⟨none, none, none, 0, 0, 0, rfl, fun w'' _ => ⟨⟨RU.nil _ _, RR.nil _ _⟩, RI.nil _ _⟩, hEx⟩
set_option maxRecDepth 20000 in
set_option maxHeartbeats 8000000 in
theorem largest_any (M : Mo) (va ra : Option Addr) (vc rc : Nat) (fa : Option Addr) (fc : Nat) (f : List Nd) (w : World) (hm : RM w va ra M) (hf : RN w fa f) :
    Calls Tryz.prog 15 #[.agg #[.int .i64 M.worlds, .slice va M.val.length vc, .slice ra M.rel.length rc], .slice fa f.length fc] w fun e w' => RetR (filLa M f false) (natI (filN M f)) (lookErr M f) e w w' := by
  have hE0 := ((Ext.refl w).alloc (.cells #[.int .i64 M.worlds, .slice va M.val.length vc, .slice ra M.rel.length rc] 25)).alloc (.cells #[.int .i64 0, .slice none 0 0, .slice none 0 0] 25)
  have hbx := (MoBox.new w M.worlds M.val M.rel va vc ra rc 25).ext ((Ext.refl _).alloc (.cells #[.int .i64 0, .slice none 0 0, .slice none 0 0] 25))
  have hr0 := OutAt.new1 w (.cells #[.int .i64 M.worlds, .slice va M.val.length vc, .slice ra M.rel.length rc] 25) (.int .i64 0) (.slice none 0 0) (.slice none 0 0) 25
  have HE := Lib.hid hE0
  have HM := Lib.hid (hm.ext hE0)
  have HF := Lib.hid (hf.ext hE0)
  have HB := Lib.hid hbx
  have HR := Lib.hid hr0
  have hs0 : ((w.alloc (.cells #[.int .i64 M.worlds, .slice va M.val.length vc, .slice ra M.rel.length rc] 25)).alloc (.cells #[.int .i64 0, .slice none 0 0, .slice none 0 0] 25)).heap.size = w.heap.size + 2 := by simp
  have HSZ := Lib.hid hs0
  obtain ⟨m0, m1, m2⟩ := hbx
  dsimp only at m0 m1 m2
  clear hE0 hf hm hr0 hs0
  by_cases hl : lookErr M f = 0
  · obtain ⟨N, vk⟩ := vok_of hl
    have HVK := Lib.hid vk
    have HL := Lib.hid hl
    have HC : Hid (filN M f = (List.range N).map (clsOf (subL M (rt f)) N)) := Lib.hid (by unfold filN; rw [if_pos hl, vk.nn])
    have HA : Hid (filLa M f false = filM M (fFacts (fCompact f)) (repL (subL M (rt f)) N) (permL (subL M (rt f)) (fCompact f) false)) := Lib.hid (by unfold filLa; rw [if_pos hl, vk.nn, vk.fx, vk.cc])
    have HLK : Hid (∀ W, RM W va ra M → RN W fa f → Calls Tryz.prog 28 #[.agg #[.int .i64 M.worlds, .slice va M.val.length vc, .slice ra M.rel.length rc], .slice fa f.length fc] W fun e w' => RetV5 M va ra vc rc f e W w') := Lib.hid fun W h1 h2 => look_any M va ra vc rc fa fc f W h1 h2 hl
    clear hl vk
    go_enter Tryz.func15, Tryz.ntmps15
    go_wp2_with fail
    generalize (w.alloc (.cells #[.int .i64 M.worlds, .slice va M.val.length vc, .slice ra M.rel.length rc] 25)).alloc (.cells #[.int .i64 0, .slice none 0 0, .slice none 0 0] 25) = w0 at *
    refine (HLK.out _ HM.out HF.out).mono ?_
    rintro _ w1 ⟨b, ca, sa, cc, sc, rfl, hb, hv, hn, hs, hE1⟩
    rw [HVK.out.vw.ok.worlds] at hv
    have HV := Lib.hid hv
    have HN := Lib.hid hn
    have HS := Lib.hid hs
    have HE1 := Lib.hid hE1
    clear hb hv hn hs hE1 m0 m1 m2
    dsimp only
    go_wp2_with fail
    have hE3 : Ext w1 (w1.alloc (.cells #[.pointer (some ⟨b, 0, none⟩)] 45)) := (Ext.refl w1).alloc _
    have hc3 : (w1.alloc (.cells #[.pointer (some ⟨b, 0, none⟩)] 45)).cell? ⟨w1.heap.size, 0, none⟩ = some (.pointer (some ⟨b, 0, none⟩)) := by simp
    have HC3 := Lib.hid hc3
    have HE3 := Lib.hid (HE1.out.trans hE3)
    have HEy := Lib.hid hE3
    clear hE3 hc3
    generalize w1.alloc (.cells #[.pointer (some ⟨b, 0, none⟩)] 45) = w3 at *
    refine (fbuild_any M N b (fCompact f) (subL M (rt f)) (permL (subL M (rt f)) (fCompact f) false) 38 [.pointer (some ⟨w1.heap.size, 0, none⟩)] va ra ca sa vc rc cc sc w3 (HV.out.ext HEy.out) (HM.out.ext HE3.out) (HN.out.ext HEy.out) (HS.out.ext HEy.out) HVK.out.vw.ok.most HVK.out.len HVK.out.vw.ok.val HVK.out.vw.ok.rel cf_large1 ?_).mono ?_
    · intro W a x y e ha hx hy
      have h64 := HVK.out.vw.ok.most
      exact large1_any b (N : Int) (subL M (rt f)) (fCompact f) va ra ca sa _ vc _ rc cc sc W (HV.out.ext (HEy.out.trans e)) (HN.out.ext (HEy.out.trans e)) (HS.out.ext (HEy.out.trans e)) HVK.out.same HVK.out.box a x y w1.heap.size (by omega) (by omega) (e.cell HC3.out)
    rintro _ w4 ⟨v4, r4, l4, c4, d4, e4, rfl, hk4, hE4⟩
    rw [← HA.out, ← HC.out] at hk4 ⊢
    have hwb : w.heap.size + 1 < w3.heap.size := by have := (HE3.out).size; have := HSZ.out; omega
    have HH := Lib.hid (HR.out.ext (HE3.out.trans hE4))
    have HK4 := Lib.hid hk4
    have HE4 := Lib.hid ((HE.out.trans HE3.out).trans hE4)
    have HWB := Lib.hid hwb
    clear hk4 hE4 hwb
    generalize hqm : filLa M f false = QM at *
    generalize hql : filN M f = QL at *
    have HQM := Lib.hid hqm
    have HQL := Lib.hid hql
    clear hqm hql
    obtain ⟨r0, rr1, rr2, rfz⟩ := HH.out
    have f0 := rfz 0
    have f1 := rfz 1
    have f2 := rfz 2
    have hrl9 := HH.out.lt
    clear rfz
    dsimp only
    go_wp2_with fail
    have HX := (((HH.out.set0 (.int .i64 QM.worlds)).set1 (.slice v4 QM.val.length c4)).set2 (.slice r4 QM.rel.length d4)).ext ((Ext.refl _).alloc (.cells #[.int .i64 QM.worlds, .slice v4 QM.val.length c4, .slice r4 QM.rel.length d4] 25))
    obtain ⟨d0, d1, d2, -⟩ := HX
    have hEx : Ext w ((((w4.setCell ⟨w.heap.size + 1, 0, none⟩ (.int .i64 QM.worlds)).setCell ⟨w.heap.size + 1, 1, none⟩ (.slice v4 QM.val.length c4)).setCell ⟨w.heap.size + 1, 2, none⟩ (.slice r4 QM.rel.length d4)).alloc (.cells #[.int .i64 QM.worlds, .slice v4 QM.val.length c4, .slice r4 QM.rel.length d4] 25)) := (((HE4.out.setCell (by simp) _).setCell (by simp) _).setCell (by simp) _).alloc _
    have hkF : ∀ w'', Agree w.heap.size ((((w4.setCell ⟨w.heap.size + 1, 0, none⟩ (.int .i64 QM.worlds)).setCell ⟨w.heap.size + 1, 1, none⟩ (.slice v4 QM.val.length c4)).setCell ⟨w.heap.size + 1, 2, none⟩ (.slice r4 QM.rel.length d4)).alloc (.cells #[.int .i64 QM.worlds, .slice v4 QM.val.length c4, .slice r4 QM.rel.length d4] 25)) w'' → RM w'' v4 r4 QM ∧ RI w'' l4 (natI QL) := fun w'' hg => HK4.out w'' (agree_end2 HWB.out (by have := HWB.out; omega) hg)
    generalize (((w4.setCell ⟨w.heap.size + 1, 0, none⟩ (.int .i64 QM.worlds)).setCell ⟨w.heap.size + 1, 1, none⟩ (.slice v4 QM.val.length c4)).setCell ⟨w.heap.size + 1, 2, none⟩ (.slice r4 QM.rel.length d4)).alloc (.cells #[.int .i64 QM.worlds, .slice v4 QM.val.length c4, .slice r4 QM.rel.length d4] 25) = W2 at *
    refine bodyPost_ret (v := .tuple #[.agg #[.int .i64 QM.worlds, .slice v4 QM.val.length c4, .slice r4 QM.rel.length d4], .slice l4 QL.length e4, .int .i64 0]) ?_ rfl ?_
    · rw [results_cell_two rfl]
      go_simp
    · rw [HQM.out, HQL.out]
      exact ⟨v4, r4, l4, c4, d4, e4, by rw [HL.out, natI_ln], hkF, hEx⟩
  · have HLK : Hid (∀ W, RM W va ra M → RN W fa f → Calls Tryz.prog 28 #[.agg #[.int .i64 M.worlds, .slice va M.val.length vc, .slice ra M.rel.length rc], .slice fa f.length fc] W fun e w' => e = .returned (.tuple #[.pointer none, .int .i64 (lookErr M f)]) ∧ Ext W w') := Lib.hid fun W h1 h2 => lookNo_any M va ra vc rc fa fc f W h1 h2 hl
    have HC : Hid (filN M f = []) := Lib.hid (if_neg hl)
    have HA : Hid (filLa M f false = ⟨0, [], []⟩) := Lib.hid (if_neg hl)
    have hq : (lookErr M f != 0) = true := by simpa using hl
    clear hl
    generalize hle : lookErr M f = er at *
    clear hle
    go_enter Tryz.func15, Tryz.ntmps15
    go_wp2_with fail
    generalize (w.alloc (.cells #[.int .i64 M.worlds, .slice va M.val.length vc, .slice ra M.rel.length rc] 25)).alloc (.cells #[.int .i64 0, .slice none 0 0, .slice none 0 0] 25) = w0 at *
    refine (HLK.out _ HM.out HF.out).mono ?_
    rintro _ w1 ⟨rfl, hE1⟩
    have HH := Lib.hid (HR.out.ext hE1)
    have HE1 := Lib.hid (HE.out.trans hE1)
    clear hE1 m0 m1 m2
    obtain ⟨r0, rr1, rr2, rfz⟩ := HH.out
    have f0 := rfz 0
    have f1 := rfz 1
    have f2 := rfz 2
    have hrl9 := HH.out.lt
    clear rfz
    dsimp only
    go_wp2_with fail
    obtain ⟨d0, d1, d2, -⟩ := OutAt.ext (((HH.out.set0 (.int .i64 0)).set1 (.slice none 0 0)).set2 (.slice none 0 0)) ((Ext.refl _).alloc (.cells #[.pointer none] 45))
    have hEx : Ext w ((((w1.setCell ⟨w.heap.size + 1, 0, none⟩ (.int .i64 0)).setCell ⟨w.heap.size + 1, 1, none⟩ (.slice none 0 0)).setCell ⟨w.heap.size + 1, 2, none⟩ (.slice none 0 0)).alloc (.cells #[.pointer none] 45)) := (((HE1.out.setCell (by simp) _).setCell (by simp) _).setCell (by simp) _).alloc _
    generalize (((w1.setCell ⟨w.heap.size + 1, 0, none⟩ (.int .i64 0)).setCell ⟨w.heap.size + 1, 1, none⟩ (.slice none 0 0)).setCell ⟨w.heap.size + 1, 2, none⟩ (.slice none 0 0)).alloc (.cells #[.pointer none] 45) = W2 at *
    refine bodyPost_ret (v := .tuple #[.agg #[.int .i64 0, .slice none 0 0, .slice none 0 0], .slice none 0 0, .int .i64 er]) ?_ rfl ?_
    · rw [results_cell_two rfl]
      go_simp
    · rw [HA.out, HC.out]
      exact ⟨none, none, none, 0, 0, 0, rfl, fun w'' _ => ⟨⟨RU.nil _ _, RR.nil _ _⟩, RI.nil _ _⟩, hEx⟩
end Wt

/- Walks: wittingref02.In; wittingref23.Same at equal lists. -/
namespace Wt
open Go Go.RowKit Go.Maps Go.Proofs Fm

set_option maxHeartbeats 2000000 in
theorem r2In_any (s : BitVec 64) (k : Nat) (w : World) (hk : k < 64) :
    Calls Tryz.prog 33 #[.int .u64 (un s), .int .i64 (k : Int)] w fun e w' => e = .returned (.bool (bt s k)) ∧ w = w' := by
  have hu := bit_un s k
  cases hb : bt s k
  all_goals
    rw [hb] at hu
    simp only [b01I, if_true, if_false, Bool.false_eq_true] at hu
    go_enter Tryz.func33, Tryz.ntmps33
    go_wp2_with fail
    go_ret
    exact ⟨rfl, rfl⟩
set_option maxRecDepth 20000 in
set_option maxHeartbeats 1000000 in
theorem r23Same_any (l : List Nat) (a b : Option Addr) (c d : Nat) (w : World) (h1 : RI w a (natI l)) (h2 : RI w b (natI l)) :
    Calls Tryz.prog 11 #[.slice a l.length c, .slice b l.length d] w fun e w' => e = .returned (.bool true) ∧ Ext w w' := by
  have H1 := Lib.hid h1
  have H2 := Lib.hid h2
  have hl := h1.len
  rw [natI_ln] at hl
  clear h1 h2
  go_enter Tryz.func11, Tryz.ntmps11
  go_wp2
  go_loopw [5] (fun i wr => ∃ k : Nat, k ≤ l.length ∧ i = .int .i64 (k : Int) ∧ Ext w wr) (fun i _ => l.length - (RowKit.intOf i).toNat)
  case atStart => exact ⟨0, Nat.zero_le _, rfl, Ext.refl _⟩
  case round =>
    obtain ⟨k, hk, rfl, hE⟩ := hrel
    by_cases hlt : k < l.length
    · obtain ⟨b1, o1, rfl, hb1, hc1⟩ := (H1.out.ext hE).get (k := k) (by rw [natI_ln]; exact hlt)
      obtain ⟨b2, o2, rfl, hb2, hc2⟩ := (H2.out.ext hE).get (k := k) (by rw [natI_ln]; exact hlt)
      have hne : (nth (natI l) k != nth (natI l) k) = false := by simp
      have hlI : (k : Int) < (l.length : Int) := by omega
      go_wp2_with fail
      go_quiet (fail)
      go_wp2
      go_roundw
      case rel => exact ⟨k + 1, hlt, by go_num, hE.drewN _⟩
      case measure => simp [RowKit.intOf]; omega
    · go_wp2
      go_ret
      exact ⟨rfl, hE⟩
end Wt

/- Walk: wittingref23.Classes. -/
namespace Wt
open Go Go.RowKit Go.Maps Go.Proofs Fm

/-- Do two worlds lie in the same of the first i sets? -/
def agrK (L : List (BitVec 64)) (v w i : Nat) : Bool := (List.range i).all fun j => bt (nth L j) v == bt (nth L j) w
theorem agrK_step (L : List (BitVec 64)) (v w i : Nat) : agrK L v w (i + 1) = (agrK L v w i && (bt (nth L i) v == bt (nth L i) w)) := by
  unfold agrK
  rw [List.range_succ, List.all_append]; simp
theorem agrK_all (L : List (BitVec 64)) (v w : Nat) : agrK L v w L.length = agr L v w := by
  rw [Bool.eq_iff_iff, agr_iff]
  unfold agrK
  simp only [List.all_eq_true, List.mem_range, beq_iff_eq]
  constructor
  · intro h s hs
    obtain ⟨j, hj, rfl⟩ := mem_nth hs
    exact h j hj
  · intro h j hj
    exact h _ (nth_mem hj)
/-- The list of classes as the reference gathers it. -/
def LoA (w0 : World) (L : List (BitVec 64)) (k : Nat) (v : Value) (wr : World) : Prop := GL w0 3 iv (natI (lowL L k)) v wr
theorem lowL_snoc (L : List (BitVec 64)) (k : Nat) : natI (lowL L (k + 1)) = natI (lowL L k) ++ [((lowOf L k : Nat) : Int)] := by
  simp [natI, lowL, List.range_succ]
set_option maxRecDepth 20000 in
set_option maxHeartbeats 16000000 in
theorem r23Classes_any (M : Mo) (va ra : Option Addr) (vc rc : Nat) (fa : Option Addr) (fc : Nat) (f : List Nd) (w : World) (hm : RM w va ra M) (hf : RN w fa f) :
    Calls Tryz.prog 10 #[.agg #[.int .i64 M.worlds, .slice va M.val.length vc, .slice ra M.rel.length rc], .slice fa f.length fc] w fun e w' => RetLi (filC M f) (lookErr M f) e w w' := by
  obtain ⟨i0, hi1, hz0, hz1, hz2⟩ := info_parts int_info
  have hE0 := (Ext.refl w).alloc (.cells #[.int .i64 M.worlds, .slice va M.val.length vc, .slice ra M.rel.length rc] 25)
  have hbx := MoBox.new w M.worlds M.val M.rel va vc ra rc 25
  have HB := Lib.hid hbx
  obtain ⟨m0, m1, m2⟩ := hbx
  have HE := Lib.hid hE0
  have HM := Lib.hid (hm.ext hE0)
  have HF := Lib.hid (hf.ext hE0)
  have HRQ : Hid (∀ W, RM W va ra M → RN W fa f → Calls Tryz.prog 30 #[.agg #[.int .i64 M.worlds, .slice va M.val.length vc, .slice ra M.rel.length rc], .slice fa f.length fc] W fun e w' => e = .returned (.int .i64 (lookErr M f)) ∧ Ext W w') := Lib.hid fun W h1 h2 => r23request_any M va ra vc rc fa fc f W h1 h2
  clear hE0 hf hm
  by_cases hl : lookErr M f = 0
  · obtain ⟨N, vk⟩ := vok_of hl
    have HVK := Lib.hid vk
    have HL := Lib.hid hl
    have hwN : M.worlds = (N : Int) := vk.vw.ok.worlds
    have h64 := vk.vw.ok.most
    have h200 := vk.len
    have HC : Hid (filC M f = lowL (subL M (rt f)) N) := Lib.hid (by unfold filC; rw [if_pos hl, vk.nn])
    have HSE : Hid (∀ W a c, RM W va ra M → RN W a (fCompact f) → Calls Tryz.prog 31 #[.agg #[.int .i64 M.worlds, .slice va M.val.length vc, .slice ra M.rel.length rc], .slice a (fCompact f).length c] W fun e w' => RetS M (fCompact f) e W w') := Lib.hid fun W a c h1 h2 => r17Sets_any M va ra vc rc a c (fCompact f) W h1 h2
    have HCO : Hid (∀ W, RN W fa f → Calls Tryz.prog 32 #[.slice fa f.length fc] W fun e w' => RetN (fCompact f) e W w') := Lib.hid fun W h => r5Compact_any fa fc f W h
    have HSS := Lib.hid (look_sets hl).1
    have HWN := Lib.hid hwN
    clear vk hl hwN
    go_enter Tryz.func10, Tryz.ntmps10
    go_wp2_with fail
    refine (HRQ.out _ HM.out HF.out).mono ?_
    rintro _ w1 ⟨rfl, hE1⟩
    rw [HL.out]
    obtain ⟨p0, p1, p2⟩ := HB.out.ext hE1
    have HE1 := Lib.hid hE1
    clear hE1 m0 m1 m2
    dsimp only at p0 p1 p2 ⊢
    go_wp2_with fail
    have HM1 := Lib.hid (HM.out.ext HE1.out)
    have HF1 := Lib.hid (HF.out.ext HE1.out)
    have HX1 := Lib.hid (HE.out.trans HE1.out)
    have HB1 := Lib.hid (HB.out.ext HE1.out)
    have hrq : reqErr M (fCompact f) = 0 := by
      obtain ⟨a1, a2, a3, -⟩ := lookErr_ok HL.out
      rw [← look_req a1 a2 a3]; exact HL.out
    have HRE := Lib.hid hrq
    clear hrq HE1
    generalize hC : fCompact f = C at *
    generalize hLL : subL M (rt f) = L at *
    have hl200 : L.length ≤ 200 := h200
    go_cut [7, 8] from 21 to 27 (fun s7 s8 wc => ∃ a cp, s7 = .slice a L.length cp ∧ s8 = .int .i64 0 ∧ Hid (RU wc a L) ∧ Hid (Ext w1 wc))
    case first =>
      have HCX := Lib.hid (HCO.out w1.drew (HF1.out.ext ((Ext.refl _).drew)))
      have HKP : Hid (∀ w', Ext w1.drew w' → w'.cell? ⟨w.heap.size, 0, none⟩ = some (.int .i64 M.worlds) ∧ w'.cell? ⟨w.heap.size, 1, none⟩ = some (.slice va M.val.length vc) ∧ w'.cell? ⟨w.heap.size, 2, none⟩ = some (.slice ra M.rel.length rc)) := Lib.hid fun w' e => ⟨e.cell p0, e.cell p1, e.cell p2⟩
      go_region_held3 (fun w' => w'.cell? ⟨w.heap.size, 0, none⟩ = some (.int .i64 M.worlds) ∧ w'.cell? ⟨w.heap.size, 1, none⟩ = some (.slice va M.val.length vc) ∧ w'.cell? ⟨w.heap.size, 2, none⟩ = some (.slice ra M.rel.length rc)) (first | go_keep | exact HKP.out _ (by assumption))
        (first | (go_at_call 32; refine HCX.out.mono ?_; rintro e w2 ⟨ca, cc, rfl, hcn, hE2⟩) | (go_at_call 31; refine (HSE.out _ ca cc (HM1.out.ext (((Ext.refl _).drew).trans hE2)) hcn).mono ?_; rintro e w3 ⟨a, c, rfl, hu, hE3⟩; rw [HSS.out, HRE.out]; rw [HSS.out] at hu; have hE4 := hE2.trans hE3) | fail)
      all_goals
        go_wp2_with fail
        go_meet
        case rel => exact ⟨_, _, rfl, rfl, Lib.hid hu, Lib.hid (((Ext.refl _).drew).trans hE4)⟩
    case rest =>
      obtain ⟨a, cp, rfl, rfl, HRU, HEC⟩ := hcut
      rename World => wc
      have HXC := Lib.hid (HX1.out.trans HEC.out)
      have HBC := Lib.hid (HB1.out.ext HEC.out)
      clear p0 p1 p2
      go_wp2_with fail
      go_loopw [9, 10] (fun v i wr => ∃ k : Nat, k ≤ N ∧ i = .int .i64 (k : Int) ∧ Hid (LoA wc L k v wr)) (fun _ i _ => N - (RowKit.intOf i).toNat)
      case atStart => exact ⟨0, Nat.zero_le _, rfl, Lib.hid ⟨Ext.refl _, World.ownsRow_nil _ _ _ _⟩⟩
      case round =>
        obtain ⟨k, hk, rfl, HLA⟩ := hrel
        obtain ⟨c0, -, -⟩ := HBC.out.ext HLA.out.e
        dsimp only at c0
        rw [HWN.out] at c0
        have clt := World.block_lt_of_cell? _ _ c0
        dsimp only at clt
        by_cases hkN : k < N
        · have hk64 : k < 64 := by omega
          go_wp2_with fail
          clear c0 clt
          go_loopw [11, 12] (fun t v wz => ∃ j : Nat, j ≤ k ∧ t = .int .i64 ((lowDn L k j : Nat) : Int) ∧ v = .int .i64 ((k : Int) - 1 - (j : Int)) ∧ Hid (Ext wr wz)) (fun _ v _ => (RowKit.intOf v + 1).toNat)
          case atStart => exact ⟨0, Nat.zero_le _, rfl, by go_num, Lib.hid (Ext.refl _)⟩
          case round =>
            rename World => wz
            obtain ⟨j, hj, rfl, rfl, HEZ⟩ := hrel
            by_cases hjk : j < k
            · obtain ⟨x, hx⟩ : ∃ x : Nat, (k : Int) - 1 - (j : Int) = (x : Int) := ⟨k - 1 - j, by omega⟩
              rw [hx]
              go_wp2_with fail
              have hx64 : x < 64 := by omega
              have HXK : Hid (x = k - (j + 1)) := Lib.hid (by omega)
              have HXI := Lib.hid hx
              clear hx
              go_loopw [13, 14] (fun t v wy => ∃ i : Nat, i ≤ L.length ∧ t = .bool (agrK L x k i) ∧ v = .int .i64 (i : Int) ∧ Hid (Ext wz wy)) (fun _ v _ => L.length - (RowKit.intOf v).toNat)
              case atStart => exact ⟨0, Nat.zero_le _, rfl, rfl, Lib.hid (Ext.refl _)⟩
              case round =>
                rename World => wy
                obtain ⟨i, hi, rfl, rfl, HEY⟩ := hrel
                by_cases hil : i < L.length
                · obtain ⟨b1, o1, rfl, hb1, hc1⟩ := ((HRU.out.ext HLA.out.e).ext (HEZ.out.trans HEY.out)).get hil
                  have HST := Lib.hid (agrK_step L x k i)
                  cases hag : agrK L x k i
                  · rw [hag] at HST
                    have HAG := Lib.hid hag
                    clear hag
                    go_wp2_with fail
                    go_quiet (fail)
                    go_wp2_with fail
                    go_roundw
                    case rel => exact ⟨i + 1, hil, by rw [HST.out]; rfl, by go_num, Lib.hid (HEY.out.drewN _)⟩
                    case measure => simp [RowKit.intOf]; omega
                  · rw [hag] at HST
                    have HAG := Lib.hid hag
                    clear hag
                    go_wp2_with fail
                    go_quiet ((go_at_call 33; exact Calls.quiet_of_same ((r2In_any _ _ _ (by assumption)).mono fun _ _ h => ⟨h.1, h.2.symm⟩)))
                    go_wp2_with fail
                    go_roundw
                    case rel => exact ⟨i + 1, hil, by rw [HST.out]; rfl, by go_num, Lib.hid (HEY.out.drewN _)⟩
                    case measure => simp [RowKit.intOf]; omega
                · obtain rfl : i = L.length := by omega
                  have HLD : Hid (lowDn L k (j + 1) = if agrK L x k L.length = true then x else lowDn L k j) := Lib.hid (by rw [agrK_all, HXK.out]; rfl)
                  cases hag : agrK L x k L.length
                  all_goals
                    rw [hag] at HLD
                    clear hag
                    have hxi := HXI.out
                    clear hxi
                    go_wp2_with fail
                    go_roundw
                    case rel => exact ⟨j + 1, hjk, by rw [HLD.out]; rfl, congrArg (Value.int IntKind.i64) (by have := HXI.out; omega), Lib.hid (HEZ.out.trans HEY.out)⟩
                    case measure => (have := HXI.out; simp [RowKit.intOf] <;> omega)
            · obtain rfl : k = j := by omega
              rw [show (k : Int) - 1 - (k : Int) = -1 by omega]
              have HLA2 := Lib.hid (HLA.out.ext' HEZ.out)
              have HSN := Lib.hid (lowL_snoc L k)
              have hll : (natI (lowL L k)).length = k := by rw [natI_ln, lowL_len]
              have HLL2 := Lib.hid hll
              have hle := HLA2.out.e.size
              rw [show lowDn L k k = lowOf L k from rfl]
              have HPA : Hid (∀ o, GL wc 3 iv (natI (lowL L k)) u9 (wz.alloc o)) := fun o => HLA2.out.ext' ((Ext.refl wz).alloc o)
              have HONE : Hid (∀ u ∈ [Value.int .i64 ((lowOf L k : Nat) : Int)], u.oneCell' = true) := fun u hu => by
                rcases List.mem_singleton.1 hu with rfl
                rfl
              generalize lowOf L k = y at *
              generalize natI (lowL L k) = la at *
              go_wp2_with (at_builtin; refine wpList_append_lies _ rfl _ _ 29 rfl wc.heap.size 3 i0 _ 1 8 Tryz.underlying29 hi1 hz0 hz1 hz2 rfl (by decide) u9 la.length (la.map iv) rfl (HPA.out _).own ⟨wz.heap.size, 0, none⟩ 1 1 [.int .i64 (y : Int)] rfl rfl (cell_one_new _ _ _) HONE.out (by decide) (by unfold maxLen; omega) (by omega) (by simp; omega) (wz.heap.size + 1) (by simp) ?_; intro gx cap W1 hown hgrow hat hlt2; have hpush := (HPA.out _).push (x := (y : Int)) hown hgrow; have HPU := Lib.hid hpush; clear hpush hown hgrow hat)
              go_roundw
              case rel => exact ⟨k + 1, hkN, by go_num, Lib.hid (by show GL _ _ _ (natI (lowL L (k + 1))) _ _; rw [HSN.out]; rw [HLL2.out] at HPU; exact HPU.out)⟩
              case measure => simp [RowKit.intOf]; omega
        · obtain rfl : N = k := by omega
          have hlen : (natI (lowL L N)).length ≤ 140737488355328 := by rw [natI_ln, lowL_len]; omega
          obtain ⟨a9, c9, hv9, hri⟩ := RI_of_own HLA.out.own hlen
          have HRI := Lib.hid hri
          have HV9 := Lib.hid hv9
          have HEF := Lib.hid (HXC.out.trans HLA.out.e)
          clear hri hv9 hlen
          go_wp2_with fail
          go_ret2
          exact ⟨a9, c9, by rw [HV9.out, HC.out, natI_ln, HL.out]; rfl, by rw [HC.out]; exact HRI.out, HEF.out⟩
  · have HC : Hid (filC M f = []) := Lib.hid (if_neg hl)
    have hq : (lookErr M f != 0) = true := by simpa using hl
    clear hl
    generalize lookErr M f = er at *
    go_enter Tryz.func10, Tryz.ntmps10
    go_wp2_with fail
    refine (HRQ.out _ HM.out HF.out).mono ?_
    rintro _ w1 ⟨rfl, hE1⟩
    dsimp only
    go_wp2_with fail
    go_ret2
    exact ⟨none, 0, by rw [HC.out]; rfl, by rw [HC.out]; exact RI.nil _ _, HE.out.trans hE1⟩
end Wt
