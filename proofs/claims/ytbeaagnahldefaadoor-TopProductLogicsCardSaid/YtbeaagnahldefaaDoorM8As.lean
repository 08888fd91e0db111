/- Walks: relation.points, its iterator, mapped. -/
import Derived.Test.YtbeaagnahldefaaDoorM8Aj
import Derived.Test.YtbeaagnahldefaaDoorM8Ar
import Derived.Shelf.Abstract
import Derived.Shelf.RegionOpen
import Derived.WalkKit
import Derived.OwnWalkIn
import Derived.TacticsInMore
import Derived.LoopNIn
import Derived.LoopIn
import Derived.Laws.BytesArg
import Derived.Test.YtbeaagnahldefaaDoorM8Ag
import Derived.Test.YtbeaagnahldefaaDoorM8Am
import Derived.Laws.StructEq
import Derived.Test.YtbeaagnahldefaaDoorM8Ak
import Derived.Deep.RegionHeld3
import Derived.Deep.RegionLaw
import Derived.Deep.AppendLies
namespace Wt
open Go Go.RowKit Go.Maps Go.Proofs Fm
attribute [local go_sem] Oper.semAt_some

/-- What the iterator keeps in its cell. -/
def ptsSt (s : BitVec 64) (k : Nat) : Value := .int .u64 (un (dropK s k))
/-- How many points are still to come. -/
def ptsMu (b : Nat) (w : World) : Nat := match w.cell? ⟨b, 0, none⟩ with
  | some (.int _ x) => (memL (BitVec.ofInt 64 x)).length
  | _ => 0
theorem ptsMu_at {b k : Nat} {s : BitVec 64} {w : World} (h : w.cell? ⟨b, 0, none⟩ = some (ptsSt s k)) : ptsMu b w = (memL s).length - k := by
  unfold ptsMu
  rw [h]
  show (memL (BitVec.ofInt 64 (un (dropK s k)))).length = _
  rw [ofInt_un, memL_dropK, List.length_drop]
theorem points_any (s : BitVec 64) (w : World) : Calls Tryd.prog 46 #[.int .u64 (un s)] w fun e w' => e = .returned (.func (.func 83) #[] #[.pointer (some ⟨w.heap.size, 0, none⟩)]) ∧ w' = w.alloc (.cells #[.int .u64 (un s)] 40) := by
  go_enter Tryd.func46, Tryd.ntmps46
  go_wp2
  go_ret
  exact ⟨rfl, rfl⟩
set_option maxRecDepth 20000 in
set_option maxHeartbeats 4000000 in
theorem points1_pts (n : Nat) (hn : 1 ≤ n) (b : Nat) (s : BitVec 64) : PtsAt Fence.wide n Tryd.prog 83 b (memL s) (ptsSt s) := by
  intro l J W hJs hJd hJT hY h0 hc hf
  have HS := Lib.hid hJs
  have HT := Lib.hid hJT
  have HY := Lib.hid hY
  clear hJs hJd hJT hY
  refine callsIn_of_wp Tryd.func83 rfl trivial ?_ rfl
  simp only [Tryd.ntmps83, List.size_toArray, List.length_cons, List.length_nil, Nat.reduceAdd, Nat.reduceSub, Array.replicate_succ, Array.replicate_zero, List.push_toArray, List.append_toArray, List.nil_append, List.cons_append]
  gi_wp2
  gi_loopw [] (fun wr => ∃ k, k ≤ (memL s).length ∧ Hid (J k wr) ∧ wr.cell? ⟨b, 0, none⟩ = some (ptsSt s k) ∧ wr.frozen? ⟨b, 0, none⟩ = false) (fun wr => ptsMu b wr)
  case atStart => exact ⟨0, Nat.zero_le _, Lib.hid h0, hc, hf⟩
  case round =>
    clear h0 hc hf
    obtain ⟨k, hk, HJ, hc, hf⟩ := hrel
    have hmu := Lib.hid (ptsMu_at hc)
    by_cases hkl : k < (memL s).length
    · have hne := dropK_ne hkl
      have htz := tz_any (dropK s k) hne wr (HT.out _ _ HJ.out)
      rw [dropK_tz hkl] at htz
      have HZ : Hid (CallsIn Fence.wide (n - 1) Tryd.prog 84 #[.int .u64 (un (dropK s k))] wr fun e w' => e = .returned (.int .i64 ((nth (memL s) k : Nat) : Int)) ∧ wr = w') := Lib.hid (callsIn_wide.2 htz)
      obtain ⟨fn, tmps, assign, body, hy, hR⟩ := HY.out k wr hkl HJ.out hc hf
      have hne2 : (un (dropK s k) != 0) = true := by
        have h1 : un (dropK s k) ≠ un 0#64 := fun h => hne (un_inj.1 h)
        rw [un_zero] at h1
        simpa using h1
      have HD : Hid (dropK s (k + 1) = dropK s k &&& (dropK s k - 1#64)) := Lib.hid rfl
      clear htz hne
      change wr.cell? ⟨b, 0, none⟩ = some (.int .u64 (un (dropK s k))) at hc
      generalize dropK s k = S at *
      have hbl := World.block_lt_of_cell? _ _ hc
      gi_wp2_with (refine ⟨trivial, ?_⟩; gi_at_call 84; refine HZ.out.mono ?_; rintro _ _ ⟨rfl, rfl⟩)
      refine hR.mono ?_
      rintro _ w2 ⟨rfl, hJ2, hc2, hf2⟩
      rw [hc] at hc2
      rw [hf] at hf2
      have hbl2 := World.block_lt_of_cell? _ _ hc2
      have HJ2 := Lib.hid hJ2
      clear hy hR hJ2
      have HC3 : Hid ((w2.setCell ⟨b, 0, none⟩ (.int .u64 (un (S &&& (S - 1#64))))).cell? ⟨b, 0, none⟩ = some (ptsSt s (k + 1))) := Lib.hid (by
        rw [ptsSt, HD.out]
        exact World.cell?_setCell_same' _ _ _ (by rw [hc2]; rfl))
      gi_wp2
      go_roundw
      case rel => exact ⟨k + 1, hkl, Lib.hid (HS.out _ _ _ HJ2.out), HC3.out, by rw [World.frozen?_setCell]; exact hf2⟩
      case measure =>
        have h1 := hmu.out
        have h2 := ptsMu_at HC3.out
        omega
    · obtain rfl : k = (memL s).length := by omega
      have hz : ptsSt s (memL s).length = .int .u64 0 := by unfold ptsSt; rw [dropK_end, un_zero]
      rw [hz] at hc
      gi_wp2
      go_end0
      exact ⟨⟨_, rfl⟩, HJ.out⟩
/-- A variable in a block of its own. -/
structure Bx1 (W : World) (b : Nat) (v : Value) : Prop where
  c : W.cell? ⟨b, 0, none⟩ = some v
  f : W.frozen? ⟨b, 0, none⟩ = false
theorem Bx1.lt {W : World} {b : Nat} {v : Value} (h : Bx1 W b v) : b < W.heap.size := World.block_lt_of_cell? _ _ h.c
theorem Bx1.new (W : World) (v : Value) (T : TypeId) : Bx1 (W.alloc (.cells #[v] T)) W.heap.size v := by
  have h := World.alloc_heap_new W (.cells #[v] T)
  exact ⟨by unfold World.cell?; rw [h]; rfl, by unfold World.frozen?; rw [h]; rfl⟩
theorem Bx1.ext {W W' : World} {b : Nat} {v : Value} (h : Bx1 W b v) (e : Ext W W') : Bx1 W' b v :=
  ⟨e.cell h.c, (World.frozen?_of_block (e.block _ h.lt)).trans h.f⟩
theorem Bx1.at {W : World} {b b' : Nat} {v : Value} (h : Bx1 W b v) (e : b = b') : Bx1 W b' v := e ▸ h
/-- What lies between two rounds of mapped. -/
def MpI (w : World) (a : Option Addr) (r : List (BitVec 64)) (c : Nat) (l : List Nat) (k : Nat) (W : World) : Prop :=
  (W.cell? ⟨w.heap.size + 1, 0, none⟩ = some (.int .u64 (un (mapK r l k))) ∧ W.frozen? ⟨w.heap.size + 1, 0, none⟩ = false ∧ W.cell? ⟨w.heap.size, 0, none⟩ = some (.slice a r.length c)) ∧ Below w.heap.size w W
theorem MpI.own {w : World} {a : Option Addr} {r : List (BitVec 64)} {c n : Nat} {l : List Nat} (h : w.heap.size ≤ n) : OwnFrom n (MpI w a r c l) :=
  OwnFrom.and (Own.from (fun _ _ _ _ hs hg hr => ⟨cell_kept hs.1 hg hr, (frozen_kept hs.1 hg hr).trans hs.2.1, cell_kept hs.2.2 hg hr⟩) _) (ownFrom_below (Nat.le_refl _) h)
theorem MpI.set {w W : World} {a : Option Addr} {r : List (BitVec 64)} {c k : Nat} {l : List Nat} (h : MpI w a r c l k W) (v : Value) : MpI w a r c l k (W.setCell ⟨w.heap.size + 2, 0, none⟩ v) :=
  ⟨⟨(World.cell?_setCell_other _ _ _ _ (by simp)).trans h.1.1, by rw [World.frozen?_setCell]; exact h.1.2.1, (World.cell?_setCell_other _ _ _ _ (by simp)).trans h.1.2.2⟩, h.2.setCell (by simp) _⟩
theorem MpI.put {w W : World} {a : Option Addr} {r : List (BitVec 64)} {c k : Nat} {l : List Nat} {x : Act} (h : MpI w a r c l k W) :
    ptsPost (MpI w a r c l) (w.heap.size + 1 + 1) k W Exit.normal x (W.setCell ⟨w.heap.size + 1, 0, none⟩ (.int .u64 (un (mapK r l k ||| nth r (nth l k))))).drew :=
  ⟨(KeepsOthers.setCell _ _ _).trans (KeepsOthers.drew _), ⟨⟨World.cell?_setCell_same' _ _ _ (by rw [h.1.1]; rfl), by rw [frozen_drew_own, World.frozen?_setCell]; exact h.1.2.1, (World.cell?_setCell_other _ _ _ _ (by simp)).trans h.1.2.2⟩, (h.2.setCell (by simp) _).drew⟩,
    World.cell?_setCell_other _ _ _ _ (by simp), by rw [frozen_drew_own, World.frozen?_setCell]⟩
set_option maxRecDepth 20000 in
set_option maxHeartbeats 4000000 in
theorem mapped_any (r : List (BitVec 64)) (s : BitVec 64) (a : Option Addr) (c : Nat) (w : World) (hT : Tab w) (hr : RU w a r) (hs : ∀ k, k < (memL s).length → nth (memL s) k < r.length) :
    Calls Tryd.prog 45 #[.slice a r.length c, .int .u64 (un s)] w fun e w' => e = .returned (.int .u64 (un (mapS r s))) ∧ Ext w w' := by
  refine (callsIn_wide (n := 9)).1 ?_
  refine callsIn_of_wp_marks Tryd.func45 rfl trivial ?_ rfl
  simp only [Tryd.ntmps45, List.size_toArray, List.length_cons, List.length_nil, Nat.reduceAdd, Nat.reduceSub, Array.replicate_succ, Array.replicate_zero, List.push_toArray, List.append_toArray, List.nil_append, List.cons_append]
  gi_wp2_with (refine ⟨trivial, ?_⟩; gi_at_call 46; refine (callsIn_wide.2 (points_any s _)).mono ?_; rintro _ _ ⟨rfl, rfl⟩)
  have hE3 : Ext w (((w.alloc (.cells #[.slice a r.length c] 22)).alloc (.cells #[.int .u64 0] 40)).alloc (.cells #[.int .u64 (un s)] 40)) := (((Ext.refl w).alloc _).alloc _).alloc _
  have hE1 : Ext (w.alloc (.cells #[.slice a r.length c] 22)) (((w.alloc (.cells #[.slice a r.length c] 22)).alloc (.cells #[.int .u64 0] 40)).alloc (.cells #[.int .u64 (un s)] 40)) := ((Ext.refl _).alloc _).alloc _
  have b0 := (Bx1.new w (.slice a r.length c) 22).ext hE1
  have b1 := ((Bx1.new (w.alloc (.cells #[.slice a r.length c] 22)) (.int .u64 0) 40).ext ((Ext.refl _).alloc (.cells #[.int .u64 (un s)] 40))).at (b' := w.heap.size + 1) (by simp)
  have b2 := (Bx1.new ((w.alloc (.cells #[.slice a r.length c] 22)).alloc (.cells #[.int .u64 0] 40)) (.int .u64 (un s)) 40).at (b' := w.heap.size + 1 + 1) (by simp)
  have hI0 : MpI w a r c (memL s) 0 (((w.alloc (.cells #[.slice a r.length c] 22)).alloc (.cells #[.int .u64 0] 40)).alloc (.cells #[.int .u64 (un s)] 40)) := ⟨⟨b1.c, b1.f, b0.c⟩, hE3⟩
  have hc3 : (((w.alloc (.cells #[.slice a r.length c] 22)).alloc (.cells #[.int .u64 0] 40)).alloc (.cells #[.int .u64 (un s)] 40)).cell? ⟨w.heap.size + 1 + 1, 0, none⟩ = some (ptsSt s 0) := b2.c
  have hf3 := b2.f
  clear b0 b1 b2 hE1
  have hs3 : (((w.alloc (.cells #[.slice a r.length c] 22)).alloc (.cells #[.int .u64 0] 40)).alloc (.cells #[.int .u64 (un s)] 40)).heap.size = w.heap.size + 3 := by simp
  generalize ((w.alloc (.cells #[.slice a r.length c] 22)).alloc (.cells #[.int .u64 0] 40)).alloc (.cells #[.int .u64 (un s)] 40) = w3 at *
  refine wpIn_rangeFunc_pts rfl (by decide) (gf := 83) (b := w.heap.size + 1 + 1) rfl trivial (enters_of Tryd.func83 (by kernel_rfl) rfl) (points1_pts _ (by decide) _ s) rfl hc3 hf3
    (MpI w a r c (memL s)) (MpI.own (by omega)) (fun k A v h => h.set v) (fun k A h => ⟨h.1, h.2.drew⟩) (fun k A h => hT.ext h.2) hI0
    (fun x => { tmps := #[.slice a r.length c, .int .u64 (un s), .pointer (some ⟨w.heap.size, 0, none⟩), undef, .int .u64 0, .pointer (some ⟨w.heap.size + 1, 0, none⟩), .int .i64 ((x : Nat) : Int), .int .u64 (un s), .func (.func 83) #[] #[.pointer (some ⟨w.heap.size + 1 + 1, 0, none⟩)], .int .i64 ((x : Nat) : Int), undef, undef, undef, undef, undef, undef, undef], defers := [] }) ?assign ?body ?done
  case assign =>
    intro l k W K hK
    gi_wp2
    exact hK
  case body =>
    intro l k W hk hI
    have HII := Lib.hid hI
    obtain ⟨⟨i0, i1, i2⟩, i3⟩ := hI
    obtain ⟨b1, o1, rfl, hb1, hc1⟩ := (hr.ext i3).get (hs k hk)
    have hmx : Tryd.prog.follows .mixedOrders = true := by kernel_rfl
    gi_wp2
    gi_region_with_o (fail)
    all_goals gi_wp2
    all_goals (try go_bits)
    all_goals exact HII.out.put
  case done =>
    intro D W hD hI hK
    obtain ⟨⟨i0, i1, i2⟩, i3⟩ := hI
    gi_wp2
    refine ⟨by simp, .inl ⟨_, _, rfl, run_takeDeferred hK, ?_⟩⟩
    refine ⟨_, results_tmp rfl _ _ _, ?_⟩
    exact ⟨rfl, i3.trans (belowK_b (w := w) (Nat.le_refl _) W D _ _ (by omega) hK rfl rfl)⟩
end Wt

/- Plain: the map from sets of subformulas to lowest worlds; the error of a request. -/
namespace Wt
open Go Go.RowKit Go.Maps Go.Proofs Fm

/-- In which sets a world lies. -/
def bitsL (L : List (BitVec 64)) (w : Nat) : List Bool := L.map fun s => bt s w
theorem bitsL_len (L : List (BitVec 64)) (w : Nat) : (bitsL L w).length = L.length := by simp [bitsL]
theorem bitsL_iff {L : List (BitVec 64)} {v w : Nat} : bitsL L v = bitsL L w ↔ agr L v w = true := by
  rw [agr_iff]; unfold bitsL
  exact List.map_inj_left
/-- A byte for each. -/
def b01I (b : Bool) : Int := if b then 1 else 0
def strK (l : List Bool) : ByteArray := strOfNums (l.map b01I)
def encK (l : List Bool) : Value := .string (strK l)
theorem strK_size (l : List Bool) : (strK l).size = l.length := by unfold strK; rw [strOfNums_size]; simp
theorem strK_inj {l m : List Bool} (h : strK l = strK m) : l = m := by
  have h2 : ((l.map b01I).map fun n => UInt8.ofNat n.toNat) = (m.map b01I).map fun n => UInt8.ofNat n.toNat := by
    unfold strK at h
    rw [← strOfNums_data, ← strOfNums_data, h]
  have h3 : l.map b01I = m.map b01I := by
    rw [List.map_map, List.map_map] at h2
    have h4 := (List.map_inj_right (f := (fun n : Int => UInt8.ofNat n.toNat) ∘ b01I) fun a b hab => by cases a <;> cases b <;> first | rfl | (exfalso; revert hab; decide)).1 h2
    rw [h4]
  exact (List.map_inj_right fun a b hab => by cases a <;> cases b <;> first | rfl | (exfalso; revert hab; decide)).1 h3
theorem encK_inj (l m : List Bool) (h : encK l = encK m) : l = m := by
  unfold encK at h
  injection h with h
  exact strK_inj h
def goodK (l : List Bool) : Prop := l.length ≤ 200
/-- The lowest world ahead of k with these bits. -/
def clsF (L : List (BitVec 64)) (k : Nat) (l : List Bool) : Option Int := ((List.range k).find? fun v => bitsL L v == l).map fun v : Nat => (v : Int)
theorem clsF_zero (L : List (BitVec 64)) : clsF L 0 = fun _ => none := by funext l; simp [clsF]
theorem clsF_step (L : List (BitVec 64)) (k : Nat) (l : List Bool) : clsF L (k + 1) l = if clsF L k l = none ∧ bitsL L k = l then some (k : Int) else clsF L k l := by
  unfold clsF
  rw [List.range_succ, List.find?_append]
  cases h : (List.range k).find? fun v => bitsL L v == l with
  | none => by_cases e : bitsL L k = l <;> simp [e]
  | some v => simp
theorem clsF_new {L : List (BitVec 64)} {k : Nat} (h : clsF L k (bitsL L k) = none) : (fun x => if x = bitsL L k then some (k : Int) else clsF L k x) = clsF L (k + 1) := by
  funext l
  rw [clsF_step]
  by_cases e : l = bitsL L k
  · subst e; simp [h]
  · rw [if_neg e, if_neg (fun hc => e hc.2.symm)]
theorem clsF_old {L : List (BitVec 64)} {k : Nat} (h : clsF L k (bitsL L k) ≠ none) : clsF L k = clsF L (k + 1) := by
  funext l
  rw [clsF_step]
  by_cases e : bitsL L k = l
  · subst e; rw [if_neg (fun hc => h hc.1)]
  · rw [if_neg (fun hc => e hc.2)]
theorem clsF_low (L : List (BitVec 64)) (k : Nat) : clsF L (k + 1) (bitsL L k) = some ((lowOf L k : Nat) : Int) := by
  have h : (List.range (k + 1)).find? (fun v => bitsL L v == bitsL L k) = some (lowOf L k) := by
    rw [List.find?_range_eq_some]
    refine ⟨?_, ?_, ?_⟩
    · simpa using bitsL_iff.2 (lowOf_agr L k)
    · have := lowOf_le L k; exact List.mem_range.2 (by omega)
    · intro j hj
      have : ¬ bitsL L j = bitsL L k := fun e => by
        have := lowOf_min (bitsL_iff.1 e)
        omega
      simpa using this
  unfold clsF
  rw [h]; rfl
/-- The error of a model and a formula about knowledge. -/
def lookErr (M : Mo) (f : List Nd) : Int := if moCheck M ≠ 0 then moCheck M else if fCheck f ≠ 0 then fCheck f else if 2 ≤ fFrags f then 10 else if fFits f M.rel.length M.val.length = false then 2 else 0
theorem lookErr_ok {M : Mo} {f : List Nd} (h : lookErr M f = 0) : moCheck M = 0 ∧ fCheck f = 0 ∧ fFrags f < 2 ∧ reqErr M f = 0 := by
  unfold lookErr at h
  split at h
  · rename_i h1; exact absurd h h1
  split at h
  · rename_i h1; exact absurd h h1
  split at h
  · exact absurd h (by decide)
  split at h
  · exact absurd h (by decide)
  rename_i h1 h2 h3 h4
  have h1' : moCheck M = 0 := by simpa using h1
  have h2' : fCheck f = 0 := by simpa using h2
  refine ⟨h1', h2', by omega, ?_⟩
  unfold reqErr
  rw [if_neg h1, if_neg h2, if_neg (by omega), if_neg h4]
theorem compact_twice {f : List Nd} (h : fCheck f = 0) : fCheck (fCompact f) = 0 ∧ fCompact (fCompact f) = fCompact f := by
  have hF := IsF.of h
  rw [hF.compact]
  have hs : fsize (rt f) ≤ 200 := by
    have := hF.sz
    have := (fCheck_ok.1 h).2.1
    omega
  exact ⟨canon_check _ hF.fk hs, compact_canon _ hF.fk hs⟩
theorem req_compact {M : Mo} {f : List Nd} (h1 : moCheck M = 0) (h : fCheck f = 0) (h2 : fFrags f < 2) : reqErr M (fCompact f) = (if fFits f M.rel.length M.val.length = false then 2 else 0) := by
  obtain ⟨c1, c2⟩ := compact_twice h
  have e1 : fFrags (fCompact f) = fFrags f := by unfold fFrags; rw [c2]
  have e2 : fAgents (fCompact f) = fAgents f := by unfold fAgents; rw [c2]
  have e3 : fFacts (fCompact f) = fFacts f := by unfold fFacts; rw [c2]
  have e4 : ∀ a b, fFits (fCompact f) a b = fFits f a b := fun a b => by unfold fFits; rw [e2, e3, c1, h]
  unfold reqErr
  rw [if_neg (by simp [h1]), if_neg (by simp [c1]), if_neg (by omega), e4]
theorem look_req {M : Mo} {f : List Nd} (h1 : moCheck M = 0) (h : fCheck f = 0) (h2 : fFrags f < 2) : lookErr M f = reqErr M (fCompact f) := by
  rw [req_compact h1 h h2]
  unfold lookErr
  rw [if_neg (by simp [h1]), if_neg (by simp [h]), if_neg (by omega)]
theorem look_sets {M : Mo} {f : List Nd} (h : lookErr M f = 0) : setsOf M (fCompact f) = subL M (rt f) ∧ fCompact f = canon (rt f) ∧ (fCompact f).length ≤ 200 ∧ ∃ N, Vw M (rt f) N := by
  obtain ⟨h1, h2, h3, h4⟩ := lookErr_ok h
  have hF := IsF.of h2
  refine ⟨?_, hF.compact, (fCompact_ok f).2, vw_of h1 h2 h3 h4⟩
  have hr := look_req h1 h2 h3
  rw [h] at hr
  unfold setsOf subL
  rw [if_pos hr.symm, hF.compact]
end Wt

/- The state of wittingref05's walk (the canonical list so far, the numbers of the nodes that are done), and what a call of put does to it: plain facts. -/
namespace Wt
open Go Go.RowKit Go.Maps Go.Proofs Fm

theorem node_fields : (Tryd.prog.fieldsOf 105).toList.map (fun f => (f.name == "_", f.type, f.offset)) = [(false, 3, 0), (false, 3, 1), (false, 3, 2), (false, 3, 3), (false, 3, 4), (false, 3, 5)] := by kernel_rfl
theorem node_struct : Tryd.prog.underlying 105 = some (.struct (Tryd.prog.fieldsOf 105)) := by kernel_rfl
theorem node_held : Tryd.prog.stoodInHeld 105 = false := by kernel_rfl
theorem eqFields_ints {P : Program} {w : World} (d : Nat) (h3 : P.underlying 3 = some (.int .i64)) (hp3 : P.plainKey 3 = true) (xs ys : Array Value) : ∀ (fs : List Field) (o : Nat) (us bs : List Int), fs.map (fun f => (f.name == "_", f.type, f.offset)) = (List.range' o us.length).map (fun k => (false, 3, k)) →
    us.length = bs.length → (∀ k, k < us.length → xs[o + k]? = some (.int .i64 (us.getD k 0))) → (∀ k, k < us.length → ys[o + k]? = some (.int .i64 (bs.getD k 0))) →
    (Op.eqFields (d + 1) xs ys fs).run P w = .ok (decide (us = bs)) w
  | [], o, us, bs, hf, hl, _, _ => by
    have : us = [] := by cases us with | nil => rfl | cons a us => simp [List.range'] at hf
    subst this
    have : bs = [] := by cases bs with | nil => rfl | cons b bs => simp at hl
    subst this
    simp [Op.eqFields]
  | f :: fs, o, [], bs, hf, hl, _, _ => by simp at hf
  | f :: fs, o, a :: us, [], hf, hl, _, _ => by simp at hl
  | f :: fs, o, a :: us, b :: bs, hf, hl, hx, hy => by
    simp only [List.map_cons, List.length_cons, List.range'_succ, List.cons.injEq, Prod.mk.injEq] at hf
    obtain ⟨⟨h1, h2, h4⟩, hf⟩ := hf
    have ih := eqFields_ints (w := w) d h3 hp3 xs ys fs (o + 1) us bs hf (by simpa using hl) (fun k hk => by have := hx (k + 1) (by simp; omega); rw [show o + (k + 1) = o + 1 + k by omega] at this; simpa using this) (fun k hk => by have := hy (k + 1) (by simp; omega); rw [show o + (k + 1) = o + 1 + k by omega] at this; simpa using this)
    have hx0 := hx 0 (by simp)
    have hy0 := hy 0 (by simp)
    simp at hx0 hy0
    unfold Op.eqFields
    rw [if_pos (by simpa using h1), h2, h4]
    have p1 := run_part_plain (P := P) (w := w) (e := 3) (xs := xs) (off := o) hp3 hx0
    have p2 := run_part_plain (P := P) (w := w) (e := 3) (xs := ys) (off := o) hp3 hy0
    have p3 := run_equalIn_int (P := P) (w := w) d 3 .i64 .i64 a b h3
    simp only [Sem.run_bind, p1, p2, p3, Result.andThen]
    by_cases hab : a = b
    · subst hab
      simp [ih]
    · simp [hab]
theorem int_plain : Tryd.prog.plainKey 3 = true := by kernel_rfl
/-- Nodes are compared field by field. -/
theorem run_nd_eql (a b : Nd) (W : World) : (binOp .eql 105 a.val b.val).run Tryd.prog W = .ok (.bool (decide (a = b))) W := by
  have h := eqFields_ints (P := Tryd.prog) (w := W) 9998 Tryd.underlying3 int_plain #[.int .i64 a.op, .int .i64 a.i, .int .i64 a.e, .int .i64 a.g, .int .i64 a.x, .int .i64 a.y] #[.int .i64 b.op, .int .i64 b.i, .int .i64 b.e, .int .i64 b.g, .int .i64 b.x, .int .i64 b.y] (Tryd.prog.fieldsOf 105).toList 0 [a.op, a.i, a.e, a.g, a.x, a.y] [b.op, b.i, b.e, b.g, b.x, b.y] (by rw [node_fields]; rfl) rfl
    (fun k hk => by
      rcases (show k = 0 ∨ k = 1 ∨ k = 2 ∨ k = 3 ∨ k = 4 ∨ k = 5 by simp at hk; omega) with rfl | rfl | rfl | rfl | rfl | rfl <;> rfl)
    (fun k hk => by
      rcases (show k = 0 ∨ k = 1 ∨ k = 2 ∨ k = 3 ∨ k = 4 ∨ k = 5 by simp at hk; omega) with rfl | rfl | rfl | rfl | rfl | rfl <;> rfl)
  unfold Nd.val
  rw [run_eql_struct, run_equalIn_agg (P := Tryd.prog) (w := W) (t := 105) (ht := node_struct) (hp := node_held), h]
  have : decide (a = b) = decide ([a.op, a.i, a.e, a.g, a.x, a.y] = [b.op, b.i, b.e, b.g, b.x, b.y]) := by
    cases a; cases b; simp
  rw [this]
  rfl

/-- What may differ behind a call: the state's block, the numbers' block, the list's own block, and what is new. -/
structure FR (wb g : Nat) (v : Value) (W W' : World) (v' : Value) : Prop where
  size : W.heap.size ≤ W'.heap.size
  keep : ∀ k, k < W.heap.size → k ≠ wb → k ≠ g → some k ≠ v.ownBlock → W'.heap[k]? = W.heap[k]?
  own : v'.ownBlock = v.ownBlock ∨ ∀ b, v'.ownBlock = some b → W.heap.size ≤ b
theorem FR.refl (wb g : Nat) (v : Value) (W : World) : FR wb g v W W v := ⟨Nat.le_refl _, fun _ _ _ _ _ => rfl, .inl rfl⟩
theorem FR.trans {wb g : Nat} {v v1 v2 : Value} {W W1 W2 : World} (a : FR wb g v W W1 v1) (b : FR wb g v1 W1 W2 v2) : FR wb g v W W2 v2 where
  size := Nat.le_trans a.size b.size
  keep k h1 h2 h3 h4 := by
    have hne : some k ≠ v1.ownBlock := by
      rcases a.own with e | e
      · rw [e]; exact h4
      · intro e2
        have := e k e2.symm
        omega
    exact (b.keep k (Nat.lt_of_lt_of_le h1 a.size) h2 h3 hne).trans (a.keep k h1 h2 h3 h4)
  own := by
    rcases b.own with e | e
    · rw [e]; exact a.own
    · exact .inr fun g hg => Nat.le_trans a.size (e g hg)
theorem FR.ext {wb g : Nat} {v v1 : Value} {W W1 W2 : World} (a : FR wb g v W W1 v1) (b : Ext W1 W2) : FR wb g v W W2 v1 :=
  a.trans ⟨b.size, fun k h1 _ _ _ => b.block k h1, .inl rfl⟩
theorem FR.pre {wb g : Nat} {v v1 : Value} {W W1 W2 : World} (b : Ext W W1) (a : FR wb g v W1 W2 v1) : FR wb g v W W2 v1 :=
  FR.trans (v1 := v) ⟨b.size, fun k h1 _ _ _ => b.block k h1, .inl rfl⟩ a
/-- A block that lies apart from the state is as it was. -/
theorem FR.block {wb g : Nat} {v v1 : Value} {W W1 : World} (a : FR wb g v W W1 v1) {k : Nat} (h1 : k < W.heap.size) (h2 : k ≠ wb) (h3 : k ≠ g) (h4 : some k ≠ v.ownBlock) : W1.heap[k]? = W.heap[k]? := a.keep k h1 h2 h3 h4
theorem FR.xb {wb g : Nat} {v v1 : Value} {W W1 : World} (a : FR wb g v W W1 v1) {b : Nat} (hb : b < W.heap.size) (hv : some b ≠ v.ownBlock) : some b ≠ v1.ownBlock := by
  rcases a.own with e | e
  · rw [e]; exact hv
  · intro e2; have := e b e2.symm; omega

section
variable (w : World) (wb g c : Nat) (l : List Nd)
/-- The state of wittingref05's walk over a formula. -/
structure RS (W : World) (L : List Fm) (v : Value) (D : List Int) : Prop where
  lo : w.heap.size ≤ wb
  hi : wb < W.heap.size
  ext : Ext w W
  co : W.cell? ⟨wb, 0, none⟩ = some v
  cd : W.cell? ⟨wb, 1, none⟩ = some (.slice (some ⟨g, 0, none⟩) l.length c)
  fz : ∀ o, W.frozen? ⟨wb, o, none⟩ = false
  own : W.ownsRow (wb + 1) 105 6 v L.length (rowN (encL L))
  dn : OG W (wb + 1) 3 (.int .i64) g l.length c D
  ne : v.ownBlock ≠ some g
  dD : ∀ i, i < l.length → nth D i = -1 ∨ (trAt l i ∈ L ∧ nth D i = idx L (trAt l i))
  nd : L.Nodup
  cl : Cl L
  ok : AllOk L
  sub : ∀ t ∈ L, t ∈ (List.range l.length).map (trAt l)
variable {w wb g c l} {W : World} {L : List Fm} {v : Value} {D : List Int}
theorem RS.len (h : RS w wb g c l W L v D) : L.length ≤ l.length := by
  have := nodup_sub_len h.nd h.sub
  simpa using this
theorem RS.vb (h : RS w wb g c l W L v D) : ∀ b, v.ownBlock = some b → wb + 1 ≤ b ∧ b < W.heap.size := h.own.lt
theorem RS.gb (h : RS w wb g c l W L v D) : wb + 1 ≤ g ∧ g < W.heap.size := ⟨h.dn.base_le, h.dn.lt⟩
/-- The state lives on where its blocks are as they were. -/
theorem RS.ext' (h : RS w wb g c l W L v D) {W' : World} (e : Ext W W') : RS w wb g c l W' L v D := by
  have hz := h.hi
  refine ⟨h.lo, by have := e.size; omega, h.ext.trans e, e.cell h.co, e.cell h.cd, fun o => ?_, ?_, h.dn.ext e, h.ne, h.dD, h.nd, h.cl, h.ok, h.sub⟩
  · rw [World.frozen?_of_block (w := W) (e.block _ hz)]; exact h.fz o
  · exact h.own.kept (row := none) ⟨e.os, e.tape, e.output, e.size, fun k hk _ => e.block k hk⟩ (by cases v.ownBlock <;> simp)
theorem RS.slice (h : RS w wb g c l W L v D) (hl : l.length ≤ 1000) : ∃ va vc, v = .slice va L.length vc ∧ RN W va (encL L) := by
  obtain ⟨va, vc, hv, hrn⟩ := RN_of_own (l := encL L) (by rw [encL_length]; exact h.own) (by rw [encL_length]; have := h.len; omega)
  rw [encL_length] at hv
  exact ⟨va, vc, hv, hrn⟩
/-- An append to the list, and its store. -/
theorem RS.push (h : RS w wb g c l W L v D) {t : Fm} (hn : t ∉ L) (hk : ∀ c, kid c t → c ∈ L) (ht : fok t) (hs : t ∈ (List.range l.length).map (trAt l)) {W1 : World} {v' : Value}
    (ho : W1.ownsRow (wb + 1) 105 6 v' (L.length + 1) (rowN (encL L) ++ ndCells (ndOf L t))) (g1 : W.grownBy W1 v.ownBlock) (hv : v'.ownBlock = v.ownBlock ∨ ∀ b, v'.ownBlock = some b → W.heap.size ≤ b) :
    RS w wb g c l (W1.setCell ⟨wb, 0, none⟩ v') (L ++ [t]) v' D ∧ FR wb g v W (W1.setCell ⟨wb, 0, none⟩ v') v' := by
  have hz := h.hi
  have hlo := h.lo
  have hgb := h.gb
  have hvb := h.vb
  have hz1 : W.heap.size ≤ W1.heap.size := g1.size
  have hwv : some wb ≠ v.ownBlock := fun e => by have := (hvb wb e.symm).1; omega
  have hgv : some g ≠ v.ownBlock := fun e => h.ne e.symm
  have co1 : W1.cell? ⟨wb, 0, none⟩ = some v := g1.cell h.co (by simpa using hwv)
  have cd1 : W1.cell? ⟨wb, 1, none⟩ = some (.slice (some ⟨g, 0, none⟩) l.length c) := g1.cell h.cd (by simpa using hwv)
  have hlt : ∀ b, v'.ownBlock = some b → wb + 1 ≤ b ∧ b < W1.heap.size := ho.lt
  have hwv' : v'.ownBlock ≠ some wb := fun e => by have := (hlt wb e).1; omega
  have dn1 : OG W1 (wb + 1) 3 (.int .i64) g l.length c D := ⟨h.dn.len, h.dn.row.kept g1 (by simpa [Value.ownBlock] using hgv)⟩
  have e1 : (L ++ [t]).length = L.length + 1 := by simp
  have e2 : rowN (encL (L ++ [t])) = rowN (encL L) ++ ndCells (ndOf L t) := by rw [encL_snoc h.cl hk, rowN_append]; simp [rowN]
  refine ⟨⟨hlo, by simp [World.setCell]; omega, ?_, World.cell?_setCell_same _ _ _ co1, ?_, fun o => ?_, ?_, dn1.other 0 v' (by omega), ?_, ?_, ?_, h.cl.snoc' hn hk, ?_, ?_⟩, ⟨by simpa [World.setCell] using hz1, fun k h1 h2 h3 h4 => ?_, hv⟩⟩
  · exact (ext_of_grown h.ext g1 (fun k hk => by have := (hvb k hk).1; omega)).setCell (by simp; omega) _
  · rw [World.cell?_setCell_other _ _ _ _ (by simp)]; exact cd1
  · rw [World.frozen?_setCell, World.frozen?_of_block (g1.block wb hz hwv)]; exact h.fz o
  · rw [e1, e2]
    exact ho.kept (row := some wb) ⟨rfl, rfl, rfl, by simp, fun j _ hj => heap_setCell_other W1 ⟨wb, 0, none⟩ j v' (fun e => hj (by simp [e]))⟩ (.inr hwv')
  · intro e
    rcases hv with hv | hv
    · rw [hv] at e; exact h.ne e
    · have := hv g e; omega
  · intro i hi
    rcases h.dD i hi with h1 | ⟨h1, h2⟩
    · exact .inl h1
    · exact .inr ⟨by simp [h1], by rw [idx_append h1]; exact h2⟩
  · rw [List.nodup_append]
    refine ⟨h.nd, by simp, fun a ha b hb => ?_⟩
    simp at hb
    subst hb
    rintro rfl
    exact hn ha
  · intro s hs'
    simp only [List.mem_append, List.mem_singleton] at hs'
    rcases hs' with h1 | rfl
    · exact h.ok s h1
    · exact ht
  · intro s hs'
    simp only [List.mem_append, List.mem_singleton] at hs'
    rcases hs' with h1 | rfl
    · exact h.sub s h1
    · exact hs
  · rw [Below.heap_setCell _ _ _ _ (by simpa using h2)]
    exact g1.block k h1 h4
/-- A node's number is written down. -/
theorem RS.mark (h : RS w wb g c l W L v D) {i : Nat} (hi : i < l.length) (hm : trAt l i ∈ L) : RS w wb g c l (W.setCell ⟨g, i, none⟩ (.int .i64 (idx L (trAt l i)))) L v (D.set i (idx L (trAt l i) : Int)) ∧ FR wb g v W (W.setCell ⟨g, i, none⟩ (.int .i64 (idx L (trAt l i)))) v := by
  have hz := h.hi
  have hlo := h.lo
  have hgb := h.gb
  have hdl := h.dn.len
  refine ⟨⟨hlo, by simpa [World.setCell] using hz, h.ext.setCell (by simp; omega) _, ?_, ?_, fun o => ?_, ?_, h.dn.set i _, h.ne, ?_, h.nd, h.cl, h.ok, h.sub⟩, ⟨by simp [World.setCell], fun k h1 h2 h3 h4 => ?_, .inl rfl⟩⟩
  · rw [World.cell?_setCell_other _ _ _ _ (by simp; try omega)]; exact h.co
  · rw [World.cell?_setCell_other _ _ _ _ (by simp; try omega)]; exact h.cd
  · rw [World.frozen?_setCell]; exact h.fz o
  · exact h.own.kept (row := some g) ⟨rfl, rfl, rfl, by simp, fun j _ hj => heap_setCell_other W ⟨g, i, none⟩ j _ (fun e => hj (by simp [e]))⟩ (.inr h.ne)
  · intro j hj
    by_cases hij : i = j
    · subst hij
      refine .inr ⟨hm, ?_⟩
      rw [nth_eq _ _ (by rw [List.length_set]; omega)]
      simp
    · have : nth (D.set i (idx L (trAt l i) : Int)) j = nth D j := by
        rw [nth_eq _ _ (by rw [List.length_set]; omega), nth_eq _ _ (by omega)]
        exact List.getElem_set_ne hij _
      rw [this]
      exact h.dD j hj
  · exact Below.heap_setCell _ _ _ _ (by simpa using h3)
/-- A store into a block that lies apart. -/
theorem RS.setBox (h : RS w wb g c l W L v D) {b : Nat} (h0 : w.heap.size ≤ b) (h1 : b ≠ wb) (h2 : b ≠ g) (h3 : some b ≠ v.ownBlock) (o : Nat) (u : Value) : RS w wb g c l (W.setCell ⟨b, o, none⟩ u) L v D := by
  refine ⟨h.lo, by simpa [World.setCell] using h.hi, h.ext.setCell (by simpa using h0) _, ?_, ?_, fun o => ?_, ?_, h.dn.other o u (Ne.symm h2), h.ne, h.dD, h.nd, h.cl, h.ok, h.sub⟩
  · rw [World.cell?_setCell_other _ _ _ _ (by simp)]; exact h.co
  · rw [World.cell?_setCell_other _ _ _ _ (by simp)]; exact h.cd
  · rw [World.frozen?_setCell]; exact h.fz o
  · exact h.own.kept (row := some b) ⟨rfl, rfl, rfl, by simp, fun j _ hj => heap_setCell_other W ⟨b, o, none⟩ j u (fun e => hj (by simp [e]))⟩ (.inr (Ne.symm h3))
theorem FR.setNew {wb g : Nat} {v v1 : Value} {W W1 : World} (a : FR wb g v W W1 v1) {b : Nat} (hb : W.heap.size ≤ b) (o : Nat) (u : Value) : FR wb g v W (W1.setCell ⟨b, o, none⟩ u) v1 :=
  ⟨by have := a.size; simpa [World.setCell] using this, fun k h1 h2 h3 h4 => (Below.heap_setCell _ _ _ _ (by simp; omega)).trans (a.keep k h1 h2 h3 h4), a.own⟩
/-- Where a node lies in the list. -/
theorem RS.found (h : RS w wb g c l W L v D) {t : Fm} (hk : ∀ c, kid c t → c ∈ L) (ht : fok t) {k : Nat} (hlt : k < L.length) (he : nth (encL L) k = ndOf L t) : t ∈ L ∧ k = idx L t := by
  have h1 : nth (encL L) k = ndOf L L[k] := by
    rw [nth_eq _ _ (by rw [encL_length]; exact hlt)]
    exact encL_get hlt
  have hm : L[k] ∈ L := List.getElem_mem hlt
  have h2 : L[k] = t := ndOf_inj (h.ok _ hm) ht (fun c hc => h.cl.kid hm hc) hk (by rw [← h1, he])
  exact ⟨h2 ▸ hm, by rw [← h2, idx_getElem h.nd hlt]⟩
theorem RS.none (_h : RS w wb g c l W L v D) {t : Fm} (hno : ∀ j, 0 ≤ j → j < L.length → nth (encL L) j ≠ ndOf L t) : t ∉ L := fun hm => by
  refine hno (idx L t) (Nat.zero_le _) (idx_lt hm) ?_
  rw [nth_eq _ _ (by rw [encL_length]; exact idx_lt hm)]
  rw [encL_get (idx_lt hm), getElem_idx hm]
end
end Wt

/- Walk: wittingref05.put. -/
namespace Wt
open Go Go.RowKit Go.Maps Go.Proofs Fm

def PutPost (w : World) (wb g c : Nat) (l : List Nd) (W : World) (L : List Fm) (v : Value) (D : List Int) (t : Fm) (e : Ending) (W' : World) : Prop :=
  ∃ v', e = .returned (.int .i64 (idx (put t L) t)) ∧ RS w wb g c l W' (put t L) v' D ∧ FR wb g v W W' v'
end Wt
