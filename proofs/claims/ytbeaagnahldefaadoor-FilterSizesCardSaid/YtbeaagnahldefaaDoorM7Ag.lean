/- Walks: formula.Check, Sub, Compact. -/
import Derived.Test.YtbeaagnahldefaaDoorM7Ae
import Derived.Test.YtbeaagnahldefaaDoorM7Af
import Derived.Test.YtbeaagnahldefaaDoorM7Aa
import Derived.Test.YtbeaagnahldefaaDoorProg
namespace Wt
open Go Go.RowKit Go.Maps Go.Proofs Fm

theorem errFrom_none (l : List Nd) : ∀ f k, (∀ j, k ≤ j → j < k + f → nodeErr (nth l j) j = 0) → errFrom l f k = 0
  | 0, _, _ => rfl
  | f + 1, k, h => by
    unfold errFrom
    rw [if_neg (by rw [h k (Nat.le_refl _) (by omega)]; simp)]
    exact errFrom_none l f (k + 1) (fun j h1 h2 => h j (by omega) (by omega))
theorem errFrom_first (l : List Nd) (k : Nat) : ∀ f a, a ≤ k → k < a + f → (∀ j, a ≤ j → j < k → nodeErr (nth l j) j = 0) → nodeErr (nth l k) k ≠ 0 → errFrom l f a = nodeErr (nth l k) k
  | 0, a, h1, h2, _, _ => by omega
  | f + 1, a, h1, h2, h3, h4 => by
    unfold errFrom
    by_cases e : a = k
    · subst e; rw [if_pos h4]
    · rw [if_neg (by rw [h3 a (Nat.le_refl _) (by omega)]; simp)]
      exact errFrom_first l k f (a + 1) (by omega) (by omega) (fun j h5 h6 => h3 j (by omega) h6) h4
theorem errFrom_zero (l : List Nd) : ∀ f k, errFrom l f k = 0 → ∀ j, k ≤ j → j < k + f → nodeErr (nth l j) j = 0
  | 0, k, _, j, h1, h2 => by omega
  | f + 1, k, h, j, h1, h2 => by
    unfold errFrom at h
    by_cases e : nodeErr (nth l k) k ≠ 0
    · rw [if_pos e] at h; exact absurd h e
    · rw [if_neg e] at h
      by_cases e2 : j = k
      · subst e2; simpa using e
      · exact errFrom_zero l f (k + 1) h j (by omega) (by omega)
/-- A formula that is right. -/
theorem fCheck_ok {l : List Nd} : fCheck l = 0 ↔ 0 < l.length ∧ l.length ≤ 200 ∧ Wf l := by
  unfold fCheck
  by_cases h1 : l.length = 0
  · simp [h1]
  · rw [if_neg h1]
    by_cases h2 : 200 < l.length
    · rw [if_pos h2]; constructor
      · intro h; omega
      · rintro ⟨_, h, _⟩; omega
    · rw [if_neg h2]
      constructor
      · intro h
        exact ⟨by omega, by omega, fun k hk => errFrom_zero l _ 0 h k (Nat.zero_le _) (by omega)⟩
      · rintro ⟨_, _, h⟩
        exact errFrom_none l _ 0 (fun j _ hj => h j (by omega))

set_option maxHeartbeats 1000000 in
theorem check_any (fa : Option Addr) (fc : Nat) (l : List Nd) (w : World) (hr : RN w fa l) :
    Calls Tryd.prog 69 #[.slice fa l.length fc] w fun e w' => e = .returned (.int .i64 (fCheck l)) ∧ Ext w w' := by
  have hl := hr.len
  by_cases h1 : l.length = 0
  · have hn : fCheck l = 3 := by unfold fCheck; rw [if_pos h1]
    have HN := Lib.hid hn
    have H1 : ((l.length : Int) == 0) = true := by simp [h1]
    clear hn h1
    go_enter Tryd.func69, Tryd.ntmps69
    go_wp2
    go_ret
    exact ⟨by rw [HN.out]; rfl, Ext.refl w⟩
  · by_cases h2 : 200 < l.length
    · have hn : fCheck l = 8 := by unfold fCheck; rw [if_neg h1, if_pos h2]
      have HN := Lib.hid hn
      have H1 : ((l.length : Int) == 0) = false := by simp [h1]
      clear hn h1
      go_enter Tryd.func69, Tryd.ntmps69
      go_wp2
      go_ret
      exact ⟨by rw [HN.out]; rfl, Ext.refl w⟩
    · have hn : fCheck l = errFrom l l.length 0 := by unfold fCheck; rw [if_neg h1, if_neg h2]
      have HN := Lib.hid hn
      have H1 : ((l.length : Int) == 0) = false := by simp [h1]
      clear hn h1
      go_enter Tryd.func69, Tryd.ntmps69
      go_wp2
      go_loopw [14] (fun i wr => ∃ k : Nat, k ≤ l.length ∧ i = .int .i64 k ∧ Ext w wr ∧ Hid (∀ j, 0 ≤ j → j < k → nodeErr (nth l j) j = 0)) (fun i _ => l.length - (intOf i).toNat)
      case atStart => exact ⟨0, Nat.zero_le _, rfl, Ext.refl _, fun _ _ h => absurd h (Nat.not_lt_zero _)⟩
      case round =>
        obtain ⟨k, hk, rfl, hE, hno⟩ := hrel
        by_cases hlt : k < l.length
        · obtain ⟨b, off, rfl, hb, n0, n1, n2, n3, n4, n5⟩ := (hr.ext hE).get hlt
          by_cases hq : nodeErr (nth l k) k = 0
          · have HQ := Lib.hid hq
            clear hq
            go_wp2_with (go_at_call 98; refine (nodeError_any (nth l k) _ _).mono ?_; rintro e w1 ⟨rfl, hE1⟩; rw [HQ.out])
            go_roundw
            case rel => exact ⟨k + 1, hlt, by go_num, (hE.alloc _).trans hE1, fun j h0 hj => by
              rcases Nat.lt_or_ge j k with h | h
              · exact hno j h0 h
              · obtain rfl : j = k := by omega
                exact HQ.out⟩
            case measure => simp [intOf]; omega
          · have HQ := Lib.hid hq
            have hq2 : (nodeErr (nth l k) k != 0) = true := by simp [hq]
            clear hq
            go_wp2_with (go_at_call 98; refine (nodeError_any (nth l k) _ _).mono ?_; rintro e w1 ⟨rfl, hE1⟩)
            go_ret
            exact ⟨by rw [HN.out, errFrom_first l k _ 0 (Nat.zero_le _) (by omega) hno HQ.out]; rfl, (hE.alloc _).trans hE1⟩
        · go_wp2
          go_ret
          exact ⟨by rw [HN.out, errFrom_none l _ 0 (fun j h0 hj => hno j h0 (by omega))]; rfl, hE⟩

/-- A slice of nodes, which may be nil, holds a list. -/
def RetN (l : List Nd) (e : Ending) (w w' : World) : Prop := ∃ a c, e = .returned (.slice a l.length c) ∧ RN w' a l ∧ Ext w w'
/-- The canonical list of the formula at a node. -/
def fSub (l : List Nd) (i : Int) : List Nd := if fCheck l = 0 ∧ 0 ≤ i ∧ i < l.length then canon (trAt l i.toNat) else []
def fCompact (l : List Nd) : List Nd := fSub l ((l.length : Int) - 1)

set_option maxHeartbeats 1000000 in
theorem sub_any (fa : Option Addr) (fc : Nat) (l : List Nd) (i : Int) (w : World) (hr : RN w fa l) :
    Calls Tryd.prog 77 #[.slice fa l.length fc, .int .i64 i] w fun e w' => RetN (fSub l i) e w w' := by
  have hl := hr.len
  by_cases h1 : fCheck l = 0
  · by_cases h2 : 0 ≤ i
    · by_cases h3 : i < l.length
      · obtain ⟨k, rfl⟩ := Int.eq_ofNat_of_zero_le h2
        have hf := fCheck_ok.1 h1
        have hn : fSub l k = canon (trAt l k) := by unfold fSub; rw [if_pos ⟨h1, h2, h3⟩]; rfl
        have HN := Lib.hid hn
        have H1 := Lib.hid h1
        have HW := Lib.hid hf.2.2
        have hl2 := hf.2.1
        clear hn h1 hf
        go_enter Tryd.func77, Tryd.ntmps77
        go_wp2_with (first | (go_at_call 69; refine (check_any _ _ _ _ hr).mono ?_; rintro e w1 ⟨rfl, hE⟩; rw [H1.out]) | (go_at_call 99; refine (compact_any _ _ l k _ (hr.ext hE) HW.out (by omega) (by omega)).mono ?_; rintro e w2 ⟨⟨a, c, rfl, hc⟩, hE2⟩))
        go_ret
        unfold RetN
        rw [HN.out, canon_length]
        exact ⟨_, _, rfl, hc, hE.trans hE2⟩
      · have hn : fSub l i = [] := by unfold fSub; rw [if_neg (by omega)]
        have HN := Lib.hid hn
        have H1 := Lib.hid h1
        clear hn h1
        go_enter Tryd.func77, Tryd.ntmps77
        go_wp2_with (go_at_call 69; refine (check_any _ _ _ _ hr).mono ?_; rintro e w1 ⟨rfl, hE⟩; rw [H1.out])
        go_ret
        unfold RetN
        rw [HN.out]
        exact ⟨none, 0, rfl, RN.nil _ _, hE⟩
    · have hn : fSub l i = [] := by unfold fSub; rw [if_neg (by omega)]
      have HN := Lib.hid hn
      have H1 := Lib.hid h1
      clear hn h1
      go_enter Tryd.func77, Tryd.ntmps77
      go_wp2_with (go_at_call 69; refine (check_any _ _ _ _ hr).mono ?_; rintro e w1 ⟨rfl, hE⟩; rw [H1.out])
      go_ret
      unfold RetN
      rw [HN.out]
      exact ⟨none, 0, rfl, RN.nil _ _, hE⟩
  · have hn : fSub l i = [] := by unfold fSub; rw [if_neg (by simp [h1])]
    have HN := Lib.hid hn
    have hq2 : (fCheck l != 0) = true := by simp [h1]
    clear hn h1
    go_enter Tryd.func77, Tryd.ntmps77
    go_wp2_with (go_at_call 69; refine (check_any _ _ _ _ hr).mono ?_; rintro e w1 ⟨rfl, hE⟩)
    go_ret
    unfold RetN
    rw [HN.out]
    exact ⟨none, 0, rfl, RN.nil _ _, hE⟩
set_option maxHeartbeats 1000000 in
theorem compactF_any (fa : Option Addr) (fc : Nat) (l : List Nd) (w : World) (hr : RN w fa l) :
    Calls Tryd.prog 36 #[.slice fa l.length fc] w fun e w' => RetN (fCompact l) e w w' := by
  have hl := hr.len
  go_enter Tryd.func36, Tryd.ntmps36
  go_wp2_with (go_at_call 77; refine (sub_any _ _ l _ _ hr).mono ?_; rintro e w1 ⟨a, c, rfl, hc, hE⟩)
  go_ret
  exact ⟨_, _, rfl, hc, hE⟩
end Wt

/- Walks: formula.union, Frags, Facts, Agents, Fits. -/
namespace Wt
open Go Go.RowKit Go.Maps Go.Proofs Fm

def unionL (m : Nd → Nat) (l : List Nd) : Nat := l.foldl (fun a n => a ||| m n) 0
theorem unionL_snoc (m : Nd → Nat) (l : List Nd) (k : Nat) (hk : k < l.length) : unionL m (l.take (k + 1)) = unionL m (l.take k) ||| m (nth l k) := by
  unfold unionL
  rw [List.take_succ_eq_append_getElem hk, List.foldl_append, nth_eq l k hk]; rfl
theorem foldl_or_lt (m : Nd → Nat) (hm : ∀ n, m n < 512) : ∀ (l : List Nd) (a : Nat), a < 512 → l.foldl (fun a n => a ||| m n) a < 512
  | [], _, h => h
  | n :: l, a, h => foldl_or_lt m hm l _ (show a ||| m n < 2 ^ 9 from Nat.or_lt_two_pow h (hm n))
theorem unionL_lt (m : Nd → Nat) (hm : ∀ n, m n < 512) (l : List Nd) : unionL m l < 512 := foldl_or_lt m hm l 0 (by omega)

set_option maxHeartbeats 1000000 in
theorem union_any (F : Nat) (m : Nd → Nat) (fa : Option Addr) (fc : Nat) (l : List Nd) (w : World) (hr : RN w fa l) (hm : ∀ n, m n < 512)
    (hF : ∀ args W, (callFunc F args).run Tryd.prog W = .ok (.enter F args) W)
    (hp : ∀ W n u, Ext w W → n ∈ fCompact l → useOf n.op = (u, true) → Calls Tryd.prog F #[.agg #[.int .i64 n.op, .int .i64 n.i, .int .i64 n.e, .int .i64 n.g, .int .i64 n.x, .int .i64 n.y], .agg #[.bool u.x, .bool u.y, .bool u.fact, .bool u.agent, .bool u.group, .bool u.event, .int .i64 u.frag]] W fun e w' => e = .returned (.int .i64 (m n : Int)) ∧ Ext W w')
    (hok : ∀ n ∈ fCompact l, (useOf n.op).2 = true) (hlen : (fCompact l).length ≤ 1000) :
    Calls Tryd.prog 100 #[.slice fa l.length fc, .func (.func F) #[] #[]] w fun e w' => e = .returned (.int .i64 (unionL m (fCompact l) : Int)) ∧ Ext w w' := by
  have hl := hr.len
  have Hp := Lib.hid hp
  have Hok := Lib.hid hok
  have Hm := Lib.hid hm
  clear hp hok hm
  go_enter Tryd.func100, Tryd.ntmps100
  go_wp2_with (go_at_call 36; refine (compactF_any _ _ l _ hr).mono ?_; rintro e w1 ⟨a, c, rfl, hc, hE⟩; generalize hL : fCompact l = L at Hp Hok hlen hc ⊢; have HL := Lib.hid hL; clear hL)
  go_loopw [5, 13] (fun o i wr => ∃ k : Nat, k ≤ L.length ∧ i = .int .i64 k ∧ o = .int .i64 (unionL m (L.take k) : Int) ∧ Ext w1 wr) (fun _ i _ => L.length - (intOf i).toNat)
  case atStart => exact ⟨0, Nat.zero_le _, rfl, rfl, Ext.refl _⟩
  case round =>
    obtain ⟨k, hk, rfl, rfl, hE1⟩ := hrel
    by_cases hlt : k < L.length
    · obtain ⟨b, off, rfl, hb, n0, n1, n2, n3, n4, n5⟩ := (hc.ext hE1).get hlt
      have hmem : nth L k ∈ L := by rw [nth_eq L k hlt]; exact List.getElem_mem hlt
      rcases hu : useOf (nth L k).op with ⟨u, ok⟩
      have hok1 := Hok.out _ hmem
      rw [hu] at hok1
      subst hok1
      have HU := Lib.hid hu
      have hor := or_nat (unionL m (L.take k)) (m (nth L k)) (by have := unionL_lt m Hm.out (L.take k); omega) (by have := Hm.out (nth L k); omega)
      have hsn := unionL_snoc m L k hlt
      have HS := Lib.hid hsn
      have HO := Lib.hid hmem
      clear hu hsn hmem
      go_wp2_with (go_at_call 97; refine (uses_any _ u true HU.out _).mono ?_; rintro e w2 ⟨rfl, hE2⟩; obtain ⟨x0, x1, x2, x3, x4, x5⟩ := (NdAt.new wr (nth L k) 105).ext hE2; have qx : wr.heap.size < w2.heap.size := by have := Ext.size hE2; simp at this; omega)
      refine (Hp.out _ (nth L k) u ?_ HO.out HU.out).mono ?_
      · exact (((hE.trans hE1).alloc _).trans hE2).alloc _
      rintro e w3 ⟨rfl, hE3⟩
      go_wp2
      go_roundw
      case rel => exact ⟨k + 1, hlt, by go_num, by rw [HS.out], (((hE1.alloc _).trans hE2).alloc _).trans hE3⟩
      case measure => simp [intOf]; omega
    · go_wp2
      go_ret
      refine ⟨?_, hE.trans hE1⟩
      rw [HL.out, List.take_of_length_le (by omega)]
      rfl

theorem useOf_frag (op : Int) : 0 ≤ (useOf op).1.frag ∧ (useOf op).1.frag < 512 := by
  by_cases h : (useOf op).2 = true
  · rcases useOf_cases op h with rfl | rfl | rfl | rfl | rfl | rfl | rfl | rfl | rfl | rfl | rfl | rfl | rfl | rfl | rfl | rfl | rfl | rfl | rfl | rfl | rfl <;> decide
  · rw [useOf_no op h]; decide
theorem addT_range {l : List Nd} (hw : Wf l) : ∀ (n k : Nat), k < n → k < l.length → ∀ L s, s ∈ addT (trAt l k) L → s ∈ L ∨ s ∈ (List.range l.length).map (trAt l)
  | 0, _, h, _, _, _, _ => absurd h (Nat.not_lt_zero _)
  | n + 1, k, hn, hk, L, s, hs => by
    have hself : trAt l k ∈ (List.range l.length).map (trAt l) := List.mem_map.2 ⟨k, by simpa using hk, rfl⟩
    have hput : ∀ (t : Fm) (M : List Fm), s ∈ put t M → s ∈ M ∨ s = t := by
      intro t M h
      unfold put at h
      split at h
      · exact .inl h
      · simpa using h
    by_cases hx : (useOf (nth l k).op).1.x = true
    · obtain ⟨_, hxl⟩ := hw.x_lt hk hx
      by_cases hy : (useOf (nth l k).op).1.y = true
      · obtain ⟨_, hyl⟩ := hw.y_lt hk hy
        have ht := trAt_bin hw hk hy
        rw [ht] at hs
        rcases hput _ _ hs with h | h
        · rcases addT_range hw n _ (by omega) (by omega) _ s h with h | h
          · exact addT_range hw n _ (by omega) (by omega) _ s h
          · exact .inr h
        · rw [h, ← ht]; exact .inr hself
      · have ht := trAt_un hw hk hx (by simpa using hy)
        rw [ht] at hs
        rcases hput _ _ hs with h | h
        · exact addT_range hw n _ (by omega) (by omega) _ s h
        · rw [h, ← ht]; exact .inr hself
    · have ht := trAt_leaf hk (by simpa using hx)
      rw [ht] at hs
      rcases hput _ _ hs with h | h
      · exact .inl h
      · rw [h, ← ht]; exact .inr hself
theorem fsize_le {l : List Nd} (hw : Wf l) {k : Nat} (hk : k < l.length) : fsize (trAt l k) ≤ l.length := by
  have := nodup_sub_len (L := addT (trAt l k) []) (M := (List.range l.length).map (trAt l)) (addT_nodup _ List.nodup_nil) (fun s hs => by
    rcases addT_range hw (k + 1) k (Nat.lt_succ_self k) hk [] s hs with h | h
    · simp at h
    · exact h)
  simpa [fsize] using this
/-- What a node of a canonical list is like. -/
structure NdOk (n : Nd) : Prop where
  op : (useOf n.op).2 = true
  fact : (useOf n.op).1.fact = true → 0 ≤ n.i ∧ n.i ≤ 7
  agent : (useOf n.op).1.agent = true → 0 ≤ n.i ∧ n.i ≤ 3
  group : (useOf n.op).1.group = true → 1 ≤ n.g ∧ n.g ≤ 15
  nogroup : (useOf n.op).1.group = false → n.g = 0
theorem ndOk_of {o i e g x y : Int} (h1 : (useOf o).2 = true) (h2 : needless (useOf o).1 ⟨o, i, e, g, 0, 0⟩ = false) (h3 : wide (useOf o).1 ⟨o, i, e, g, 0, 0⟩ = false) : NdOk ⟨o, i, e, g, x, y⟩ := by
  obtain ⟨fr, h' | h' | h' | h' | h' | h' | h' | h' | h'⟩ := useOf_pat o h1 <;> rw [h'] at h2 h3 <;> simp [needless, wide, outs] at h2 h3 <;> (refine ⟨h1, ?_, ?_, ?_, ?_⟩ <;> (dsimp only; rw [h']; simp) <;> omega)
theorem canon_ok {t : Fm} (ht : fok t) : ∀ n ∈ canon t, NdOk n := by
  intro n hn
  obtain ⟨s, hs, rfl⟩ := List.mem_map.1 hn
  have hok : fok s := AllOk.addT t (fun _ h => by simp at h) ht s hs
  cases s with
  | leaf o i e g => exact ndOk_of hok.1 hok.2.2.1 hok.2.2.2
  | un o i e g x => exact ndOk_of hok.1 hok.2.2.2.1 hok.2.2.2.2.1
  | bin o i e g x y => exact ndOk_of hok.1 hok.2.2.1 hok.2.2.2.1
theorem fCompact_of {l : List Nd} (h : fCheck l = 0) : fCompact l = canon (trAt l (l.length - 1)) ∧ l.length - 1 < l.length := by
  have := (fCheck_ok.1 h).1
  unfold fCompact fSub
  rw [if_pos ⟨h, by omega, by omega⟩]
  exact ⟨by congr 2; omega, by omega⟩
theorem fCompact_no {l : List Nd} (h : fCheck l ≠ 0) : fCompact l = [] := by
  unfold fCompact fSub; rw [if_neg (by simp [h])]
theorem fCompact_ok (l : List Nd) : (∀ n ∈ fCompact l, NdOk n) ∧ (fCompact l).length ≤ 200 := by
  by_cases h : fCheck l = 0
  · obtain ⟨e, hk⟩ := fCompact_of h
    obtain ⟨_, h2, hw⟩ := fCheck_ok.1 h
    rw [e]
    exact ⟨canon_ok (fok_trAt hw _ _ (Nat.lt_succ_self _) hk), by rw [canon_length]; exact Nat.le_trans (fsize_le hw hk) h2⟩
  · rw [fCompact_no h]; exact ⟨fun _ h => by simp at h, by simp⟩

def fragN (n : Nd) : Nat := (useOf n.op).1.frag.toNat
def factN (n : Nd) : Nat := if (useOf n.op).1.fact then 2 ^ (n.i.toNat % 9) else 0
def agentN (n : Nd) : Nat := if (useOf n.op).1.agent then 2 ^ (n.i.toNat % 9) else n.g.toNat % 512
theorem fragN_lt (n : Nd) : fragN n < 512 := by have := useOf_frag n.op; unfold fragN; omega
theorem pow9_lt (k : Nat) : 2 ^ (k % 9) < 512 := by
  have h : k % 9 < 9 := Nat.mod_lt _ (by omega)
  have := Nat.pow_lt_pow_right (a := 2) (by omega) h
  omega
theorem factN_lt (n : Nd) : factN n < 512 := by
  unfold factN; split
  · exact pow9_lt _
  · omega
theorem agentN_lt (n : Nd) : agentN n < 512 := by
  unfold agentN; split
  · exact pow9_lt _
  · omega
def fFrags (l : List Nd) : Nat := unionL fragN (fCompact l)
def fFacts (l : List Nd) : Nat := unionL factN (fCompact l)
def fAgents (l : List Nd) : Nat := unionL agentN (fCompact l)
theorem cf_frags1 (args : Array Value) (W : World) : (callFunc 101 args).run Tryd.prog W = .ok (.enter 101 args) W := by
  simp [callFunc, Tryd.func101, Tryd.f101]
theorem cf_facts1 (args : Array Value) (W : World) : (callFunc 104 args).run Tryd.prog W = .ok (.enter 104 args) W := by
  simp [callFunc, Tryd.func104, Tryd.f104]
theorem cf_agents1 (args : Array Value) (W : World) : (callFunc 133 args).run Tryd.prog W = .ok (.enter 133 args) W := by
  simp [callFunc, Tryd.func133, Tryd.f133]
set_option maxHeartbeats 1000000 in
theorem frags1_any (n : Nd) (u : Use) (hu : useOf n.op = (u, true)) (w : World) :
    Calls Tryd.prog 101 #[.agg #[.int .i64 n.op, .int .i64 n.i, .int .i64 n.e, .int .i64 n.g, .int .i64 n.x, .int .i64 n.y], .agg #[.bool u.x, .bool u.y, .bool u.fact, .bool u.agent, .bool u.group, .bool u.event, .int .i64 u.frag]] w
      fun e w' => e = .returned (.int .i64 (fragN n : Int)) ∧ Ext w w' := by
  have hf : u.frag = (fragN n : Int) := by have := useOf_frag n.op; unfold fragN; rw [hu] at this ⊢; dsimp only at this ⊢; omega
  have HF := Lib.hid hf
  clear hf hu
  go_enter Tryd.func101, Tryd.ntmps101
  go_wp2
  go_ret
  exact ⟨by rw [← HF.out]; rfl, ((Ext.refl w).alloc _).alloc _⟩
set_option maxHeartbeats 1000000 in
theorem facts1_any (n : Nd) (u : Use) (hu : useOf n.op = (u, true)) (hn : NdOk n) (w : World) :
    Calls Tryd.prog 104 #[.agg #[.int .i64 n.op, .int .i64 n.i, .int .i64 n.e, .int .i64 n.g, .int .i64 n.x, .int .i64 n.y], .agg #[.bool u.x, .bool u.y, .bool u.fact, .bool u.agent, .bool u.group, .bool u.event, .int .i64 u.frag]] w
      fun e w' => e = .returned (.int .i64 (factN n : Int)) ∧ Ext w w' := by
  obtain ⟨ux, uy, uf, ua, ug, ue, fr⟩ := u
  cases huf : uf
  · subst huf
    have hf : factN n = 0 := by unfold factN; rw [hu]; rfl
    have HF := Lib.hid hf
    clear hf hu hn
    go_enter Tryd.func104, Tryd.ntmps104
    go_wp2
    go_ret
    exact ⟨by rw [HF.out]; rfl, ((Ext.refl w).alloc _).alloc _⟩
  · subst huf
    obtain ⟨h0, h7⟩ := hn.fact (by rw [hu])
    have hf : factN n = 2 ^ n.i.toNat := by unfold factN; rw [hu]; simp only [if_true]; congr 1; omega
    obtain ⟨nop, ni, ne, ng, nx, ny⟩ := n
    dsimp only at *
    have HF := Lib.hid hf
    clear hf hu hn
    rcases (show ni = 0 ∨ ni = 1 ∨ ni = 2 ∨ ni = 3 ∨ ni = 4 ∨ ni = 5 ∨ ni = 6 ∨ ni = 7 by omega) with rfl | rfl | rfl | rfl | rfl | rfl | rfl | rfl
    all_goals
      clear h0 h7
      go_enter Tryd.func104, Tryd.ntmps104
      go_wp2
      go_ret
      exact ⟨by rw [HF.out]; rfl, ((Ext.refl w).alloc _).alloc _⟩
set_option maxHeartbeats 1000000 in
theorem agents1_any (n : Nd) (u : Use) (hu : useOf n.op = (u, true)) (hn : NdOk n) (w : World) :
    Calls Tryd.prog 133 #[.agg #[.int .i64 n.op, .int .i64 n.i, .int .i64 n.e, .int .i64 n.g, .int .i64 n.x, .int .i64 n.y], .agg #[.bool u.x, .bool u.y, .bool u.fact, .bool u.agent, .bool u.group, .bool u.event, .int .i64 u.frag]] w
      fun e w' => e = .returned (.int .i64 (agentN n : Int)) ∧ Ext w w' := by
  obtain ⟨ux, uy, uf, ua, ug, ue, fr⟩ := u
  cases huf : ua
  · subst huf
    have hg : 0 ≤ n.g ∧ n.g ≤ 15 := by
      cases hug : ug
      · have := hn.nogroup (by rw [hu]; exact hug); omega
      · have := hn.group (by rw [hu]; exact hug); omega
    have hf : n.g = (agentN n : Int) := by unfold agentN; rw [hu]; simp only [Bool.false_eq_true, if_false]; omega
    have HF := Lib.hid hf
    clear hf hu hn
    go_enter Tryd.func133, Tryd.ntmps133
    go_wp2
    go_ret
    exact ⟨by rw [← HF.out]; rfl, ((Ext.refl w).alloc _).alloc _⟩
  · subst huf
    obtain ⟨h0, h7⟩ := hn.agent (by rw [hu])
    have hf : agentN n = 2 ^ n.i.toNat := by unfold agentN; rw [hu]; simp only [if_true]; congr 1; omega
    obtain ⟨nop, ni, ne, ng, nx, ny⟩ := n
    dsimp only at *
    have HF := Lib.hid hf
    clear hf hu hn
    rcases (show ni = 0 ∨ ni = 1 ∨ ni = 2 ∨ ni = 3 by omega) with rfl | rfl | rfl | rfl
    all_goals
      clear h0 h7
      go_enter Tryd.func133, Tryd.ntmps133
      go_wp2
      go_ret
      exact ⟨by rw [HF.out]; rfl, ((Ext.refl w).alloc _).alloc _⟩
set_option maxHeartbeats 1000000 in
theorem frags_any (fa : Option Addr) (fc : Nat) (l : List Nd) (w : World) (hr : RN w fa l) :
    Calls Tryd.prog 70 #[.slice fa l.length fc] w fun e w' => e = .returned (.int .i64 (fFrags l : Int)) ∧ Ext w w' := by
  have H := Lib.hid (union_any _ fragN fa fc l w hr fragN_lt cf_frags1 (fun W n u _ _ hu => frags1_any n u hu W) (fun n hn => ((fCompact_ok l).1 n hn).op) (by have := (fCompact_ok l).2; omega))
  go_enter Tryd.func70, Tryd.ntmps70
  go_wp2_with (go_at_call 100; refine H.out.mono ?_; rintro e w1 ⟨rfl, hE⟩)
  go_ret
  exact ⟨rfl, hE⟩
set_option maxHeartbeats 1000000 in
theorem facts_any (fa : Option Addr) (fc : Nat) (l : List Nd) (w : World) (hr : RN w fa l) :
    Calls Tryd.prog 74 #[.slice fa l.length fc] w fun e w' => e = .returned (.int .i64 (fFacts l : Int)) ∧ Ext w w' := by
  have H := Lib.hid (union_any _ factN fa fc l w hr factN_lt cf_facts1 (fun W n u _ hm hu => facts1_any n u hu ((fCompact_ok l).1 n hm) W) (fun n hn => ((fCompact_ok l).1 n hn).op) (by have := (fCompact_ok l).2; omega))
  go_enter Tryd.func74, Tryd.ntmps74
  go_wp2_with (go_at_call 100; refine H.out.mono ?_; rintro e w1 ⟨rfl, hE⟩)
  go_ret
  exact ⟨rfl, hE⟩
set_option maxHeartbeats 1000000 in
theorem agents_any (fa : Option Addr) (fc : Nat) (l : List Nd) (w : World) (hr : RN w fa l) :
    Calls Tryd.prog 115 #[.slice fa l.length fc] w fun e w' => e = .returned (.int .i64 (fAgents l : Int)) ∧ Ext w w' := by
  have H := Lib.hid (union_any _ agentN fa fc l w hr agentN_lt cf_agents1 (fun W n u _ hm hu => agents1_any n u hu ((fCompact_ok l).1 n hm) W) (fun n hn => ((fCompact_ok l).1 n hn).op) (by have := (fCompact_ok l).2; omega))
  go_enter Tryd.func115, Tryd.ntmps115
  go_wp2_with (go_at_call 100; refine H.out.mono ?_; rintro e w1 ⟨rfl, hE⟩)
  go_ret
  exact ⟨rfl, hE⟩
end Wt

/- Walks: formula.Fits. -/
namespace Wt
open Go Go.RowKit Go.Maps Go.Proofs Fm

def below (mask n : Nat) : Bool := decide (31 ≤ n) || mask >>> n == 0
theorem below_eq (mask n : Nat) : below mask n = (decide (31 ≤ (n : Int)) || ((mask : Int) / 2 ^ n == 0)) := by
  unfold below
  congr 1
  · rw [decide_eq_decide]; omega
  · rw [Nat.shiftRight_eq_div_pow, Bool.eq_iff_iff]; simp only [beq_iff_eq]
    have : ((mask : Int) / 2 ^ n) = ((mask / 2 ^ n : Nat) : Int) := by simp
    rw [this]; omega
theorem sr_eq0 (g n : Nat) : (sr g n == 0) = (g >>> n == 0) := by
  unfold sr; rw [Bool.eq_iff_iff]; simp only [beq_iff_eq]; omega
theorem max_zero (n : Nat) : max (n : Int) 0 = (n : Int) := by omega
set_option maxHeartbeats 1000000 in
theorem fits1_any (mask n : Nat) (_hm : mask < 512) (w : World) :
    Calls Tryd.prog 114 #[.int .i64 (mask : Int), .int .i64 (n : Int)] w fun e w' => e = .returned (.bool (below mask n)) ∧ w = w' := by
  by_cases h : 31 ≤ n
  · have hb : below mask n = true := by unfold below; simp [h]
    have HB := Lib.hid hb
    clear hb
    go_enter Tryd.func114, Tryd.ntmps114
    go_wp2
    go_ret
    exact ⟨by rw [HB.out]; rfl, rfl⟩
  · have hx := max_zero n
    have HB := Lib.hid (below_eq mask n)
    go_enter Tryd.func114, Tryd.ntmps114
    go_wp2
    all_goals
      go_ret
      exact ⟨by rw [HB.out]; rfl, rfl⟩
def fFits (l : List Nd) (a f : Nat) : Bool := fCheck l == 0 && below (fAgents l) a && below (fFacts l) f
set_option maxHeartbeats 1000000 in
theorem fits_any (fa : Option Addr) (fc : Nat) (l : List Nd) (a f : Nat) (w : World) (hr : RN w fa l) :
    Calls Tryd.prog 95 #[.slice fa l.length fc, .int .i64 (a : Int), .int .i64 (f : Int)] w fun e w' => e = .returned (.bool (fFits l a f)) ∧ Ext w w' := by
  have ha := unionL_lt agentN agentN_lt (fCompact l)
  have hf := unionL_lt factN factN_lt (fCompact l)
  by_cases h1 : fCheck l = 0
  · have H1 := Lib.hid h1
    cases h2 : below (fAgents l) a
    · have hn : fFits l a f = false := by unfold fFits; rw [h2]; simp
      have HN := Lib.hid hn
      have H2 := Lib.hid h2
      clear h1 h2 hn
      go_enter Tryd.func95, Tryd.ntmps95
      go_wp2_with (first | (go_at_call 69; refine (check_any _ _ l _ hr).mono ?_; rintro e w1 ⟨rfl, hE⟩; rw [H1.out]) | (go_at_call 115; refine (agents_any _ _ l _ (hr.ext hE)).mono ?_; rintro e w2 ⟨rfl, hE2⟩) | (go_at_call 114; refine (fits1_any (fAgents l) a ha _).mono ?_; rintro e w3 ⟨rfl, rfl⟩; rw [H2.out]))
      go_ret
      exact ⟨by rw [HN.out]; rfl, hE.trans hE2⟩
    · have hn : fFits l a f = below (fFacts l) f := by unfold fFits; rw [h1, h2]; simp
      have HN := Lib.hid hn
      have H2 := Lib.hid h2
      clear h1 h2 hn
      go_enter Tryd.func95, Tryd.ntmps95
      go_wp2_with (first | (go_at_call 69; refine (check_any _ _ l _ hr).mono ?_; rintro e w1 ⟨rfl, hE⟩; rw [H1.out]) | (go_at_call 115; refine (agents_any _ _ l _ (hr.ext hE)).mono ?_; rintro e w2 ⟨rfl, hE2⟩; have hE3 := hE.trans hE2) | (go_at_call 74; refine (facts_any _ _ l _ (hr.ext hE3)).mono ?_; rintro e w4 ⟨rfl, hE4⟩; have tok := hE4) | (go_at_call 114; have _t := tok; refine (fits1_any (fFacts l) f hf _).mono ?_; rintro e w3 ⟨rfl, rfl⟩) | (go_at_call 114; refine (fits1_any (fAgents l) a ha _).mono ?_; rintro e w3 ⟨rfl, rfl⟩; rw [H2.out]))
      go_ret
      exact ⟨by rw [HN.out]; rfl, hE3.trans hE4⟩
  · have hn : fFits l a f = false := by unfold fFits; simp [h1]
    have HN := Lib.hid hn
    have hq2 : (fCheck l == 0) = false := by simp [h1]
    clear h1 hn
    go_enter Tryd.func95, Tryd.ntmps95
    go_wp2_with (go_at_call 69; refine (check_any _ _ l _ hr).mono ?_; rintro e w1 ⟨rfl, hE⟩)
    go_ret
    exact ⟨by rw [HN.out]; rfl, hE⟩
end Wt

/- Plain laws: the canonical list of a tree is right, and its last node is the tree. -/
namespace Wt
open Fm

theorem mem_put {s t : Fm} {L : List Fm} : s ∈ put t L ↔ s ∈ L ∨ s = t := by
  unfold put; split
  · rename_i h
    exact ⟨.inl, fun h2 => h2.elim id (fun e => e ▸ h)⟩
  · simp
/-- A formula that a tree contains. -/
def sbt (s : Fm) : Fm → Prop
  | .leaf o i e g => s = .leaf o i e g
  | .un o i e g x => s = .un o i e g x ∨ sbt s x
  | .bin o i e g x y => s = .bin o i e g x y ∨ sbt s x ∨ sbt s y
theorem mem_addT {s : Fm} : ∀ (t : Fm) (L : List Fm), s ∈ addT t L ↔ s ∈ L ∨ sbt s t
  | .leaf .., L => mem_put
  | .un o i e g x, L => by
    show s ∈ put _ _ ↔ _
    rw [mem_put, mem_addT x L]
    simp only [sbt]
    constructor
    · rintro ((h | h) | h)
      · exact .inl h
      · exact .inr (.inr h)
      · exact .inr (.inl h)
    · rintro (h | h | h)
      · exact .inl (.inl h)
      · exact .inr h
      · exact .inl (.inr h)
  | .bin o i e g x y, L => by
    show s ∈ put _ _ ↔ _
    rw [mem_put, mem_addT y, mem_addT x]
    simp only [sbt]
    constructor
    · rintro (((h | h) | h) | h)
      · exact .inl h
      · exact .inr (.inr (.inl h))
      · exact .inr (.inr (.inr h))
      · exact .inr (.inl h)
    · rintro (h | h | h | h)
      · exact .inl (.inl (.inl h))
      · exact .inr h
      · exact .inl (.inl (.inr h))
      · exact .inl (.inr h)
theorem sbt_size {s : Fm} : ∀ (t : Fm), sbt s t → s.size ≤ t.size
  | .leaf .., h => by rw [show s = _ from h]; exact Nat.le_refl _
  | .un o i e g x, h => by
    rcases h with rfl | h
    · exact Nat.le_refl _
    · have := sbt_size x h; simp [size]; omega
  | .bin o i e g x y, h => by
    rcases h with rfl | h | h
    · exact Nat.le_refl _
    · have := sbt_size x h; simp [size]; omega
    · have := sbt_size y h; simp [size]; omega
theorem sbt_refl (t : Fm) : sbt t t := by cases t <;> simp [sbt]
/-- The tree itself comes last. -/
theorem addT_last (t : Fm) : ∃ M, addT t [] = M ++ [t] := by
  cases t with
  | leaf o i e g => exact ⟨[], by simp [addT, put]⟩
  | un o i e g x =>
    refine ⟨addT x [], ?_⟩
    have hn : Fm.un o i e g x ∉ addT x [] := fun h => by
      have := sbt_size x (((mem_addT x []).1 h).elim (fun h => by simp at h) id)
      simp [size] at this; omega
    show put _ _ = _
    unfold put; rw [if_neg hn]
  | bin o i e g x y =>
    refine ⟨addT y (addT x []), ?_⟩
    have hn : Fm.bin o i e g x y ∉ addT y (addT x []) := fun h => by
      rcases (mem_addT y _).1 h with h | h
      · have := sbt_size x (((mem_addT x []).1 h).elim (fun h => by simp at h) id)
        simp [size] at this; omega
      · have := sbt_size y h
        simp [size] at this; omega
    show put _ _ = _
    unfold put; rw [if_neg hn]
theorem fsize_pos (t : Fm) : 0 < fsize t := by
  obtain ⟨M, h⟩ := addT_last t
  unfold fsize; rw [h]; simp
theorem canon_root (t : Fm) : (addT t [])[fsize t - 1]'(by have := fsize_pos t; unfold fsize at *; omega) = t := by
  obtain ⟨M, h⟩ := addT_last t
  have e : fsize t - 1 = M.length := by unfold fsize; rw [h]; simp
  simp only [h, e]
  simp
section
variable {L : List Fm} (hn : L.Nodup) (hc : Cl L) (ho : AllOk L)
include hn hc
theorem idx_kid {k : Nat} (hk : k < L.length) {c : Fm} (h : kid c L[k]) : idx L c < k ∧ c ∈ L := by
  obtain ⟨j, hj, e⟩ := hc k hk c h
  have hjl : j < L.length := by omega
  have : idx L c = j := by rw [← e]; exact idx_getElem hn hjl
  exact ⟨by omega, e ▸ List.getElem_mem hjl⟩
include ho
theorem encL_wf : Wf (encL L) := by
  intro k hk
  have hkl : k < L.length := by simpa using hk
  rw [nth_eq _ _ hk, encL_get hkl]
  have hok := ho _ (List.getElem_mem hkl)
  have hki := @idx_kid L hn hc k hkl
  generalize L[k] = t at hok hki
  cases t with
  | leaf o i e g =>
    refine nodeErr_zero (n := ⟨o, i, e, g, 0, 0⟩) hok.1 ?_ ?_ hok.2.2.1 hok.2.2.2
    · show opnd (useOf o).1.x 0 k = true
      rw [hok.2.1]; rfl
    · show opnd (useOf o).1.y 0 k = true
      have hy : (useOf o).1.y = false := by
        cases hy : (useOf o).1.y
        · rfl
        · have := useOf_yx o hy; rw [hok.2.1] at this; cases this
      rw [hy]; rfl
  | un o i e g x =>
    have h1 := (hki (c := x) rfl).1
    refine nodeErr_zero (n := ⟨o, i, e, g, idx L x, 0⟩) hok.1 ?_ ?_ hok.2.2.2.1 hok.2.2.2.2.1
    · show opnd (useOf o).1.x _ k = true
      rw [hok.2.1]; simp [opnd]; omega
    · show opnd (useOf o).1.y 0 k = true
      rw [hok.2.2.1]; rfl
  | bin o i e g x y =>
    have h1 := (hki (c := x) (.inl rfl)).1
    have h2 := (hki (c := y) (.inr rfl)).1
    refine nodeErr_zero (n := ⟨o, i, e, g, idx L x, idx L y⟩) hok.1 ?_ ?_ hok.2.2.1 hok.2.2.2.1
    · show opnd (useOf o).1.x _ k = true
      rw [useOf_yx o hok.2.1]; simp [opnd]; omega
    · show opnd (useOf o).1.y _ k = true
      rw [hok.2.1]; simp [opnd]; omega
theorem trAt_encL : ∀ (n k : Nat) (hk : k < L.length), k < n → trAt (encL L) k = L[k]
  | 0, _, _, h => absurd h (Nat.not_lt_zero _)
  | n + 1, k, hk, hkn => by
    have hw := encL_wf hn hc ho
    have hkl : k < (encL L).length := by simpa using hk
    have hnd : nth (encL L) k = ndOf L L[k] := by rw [nth_eq _ _ hkl]; exact encL_get hk
    have hok := ho _ (List.getElem_mem hk)
    have hki := @idx_kid L hn hc k hk
    rcases hL : L[k] with ⟨o, i, e, g⟩ | ⟨o, i, e, g, x⟩ | ⟨o, i, e, g, x, y⟩
    · rw [hL] at hnd hok
      rw [trAt_leaf hkl (by rw [hnd]; exact hok.2.1), hnd]; rfl
    · rw [hL] at hnd hok hki
      obtain ⟨h1, hm⟩ := hki (c := x) rfl
      rw [trAt_un hw hkl (by rw [hnd]; exact hok.2.1) (by rw [hnd]; exact hok.2.2.1), hnd]
      show Fm.un o i e g (trAt (encL L) ((idx L x : Int).toNat)) = _
      rw [Int.toNat_natCast, trAt_encL n (idx L x) (idx_lt hm) (by omega), getElem_idx hm]
    · rw [hL] at hnd hok hki
      obtain ⟨h1, hm1⟩ := hki (c := x) (.inl rfl)
      obtain ⟨h2, hm2⟩ := hki (c := y) (.inr rfl)
      rw [trAt_bin hw hkl (by rw [hnd]; exact hok.2.1), hnd]
      show Fm.bin o i e g (trAt (encL L) ((idx L x : Int).toNat)) (trAt (encL L) ((idx L y : Int).toNat)) = _
      rw [Int.toNat_natCast, Int.toNat_natCast, trAt_encL n (idx L x) (idx_lt hm1) (by omega), getElem_idx hm1, trAt_encL n (idx L y) (idx_lt hm2) (by omega), getElem_idx hm2]
end
theorem addT_ok (t : Fm) (ht : fok t) : (addT t []).Nodup ∧ Cl (addT t []) ∧ AllOk (addT t []) :=
  ⟨addT_nodup t List.nodup_nil, Cl.addT t Cl.nil, AllOk.addT t (fun _ h => by simp at h) ht⟩
theorem canon_wf (t : Fm) (ht : fok t) : Wf (canon t) := by
  obtain ⟨h1, h2, h3⟩ := addT_ok t ht
  exact encL_wf h1 h2 h3
theorem trAt_canon (t : Fm) (ht : fok t) : trAt (canon t) ((canon t).length - 1) = t := by
  obtain ⟨h1, h2, h3⟩ := addT_ok t ht
  have hp := fsize_pos t
  rw [canon_length]
  show trAt (encL (addT t [])) _ = t
  rw [trAt_encL h1 h2 h3 (fsize t) (fsize t - 1) (by unfold fsize at *; omega) (by omega)]
  exact canon_root t
theorem canon_check (t : Fm) (ht : fok t) (h : fsize t ≤ 200) : fCheck (canon t) = 0 :=
  fCheck_ok.2 ⟨by rw [canon_length]; exact fsize_pos t, by rw [canon_length]; exact h, canon_wf t ht⟩
theorem compact_canon (t : Fm) (ht : fok t) (h : fsize t ≤ 200) : fCompact (canon t) = canon t := by
  rw [(fCompact_of (canon_check t ht h)).1, trAt_canon t ht]
end Wt

/- Models: the plain functions that the walks name. -/
namespace Wt
open Go Go.RowKit
structure Mo where
  worlds : Int
  val : List (BitVec 64)
  rel : List (List (BitVec 64))
  deriving Inhabited, DecidableEq
/-- The first n worlds. -/
def allW (n : Nat) : BitVec 64 := if 64 ≤ n then 18446744073709551615#64 else (1#64 <<< n) - 1#64
def outOne (n : Nat) (s : BitVec 64) : Bool := (s &&& ~~~ allW n) != 0#64
def outL (n : Nat) (l : List (BitVec 64)) : Bool := l.any (outOne n)
/-- The error of a model. -/
def moCheck (M : Mo) : Int :=
  if M.worlds < 1 ∨ 64 < M.worlds then 2
  else if 4 < M.rel.length ∨ 8 < M.val.length then 8
  else if M.rel.any (fun r => (r.length : Int) != M.worlds) then 3
  else if outL M.worlds.toNat M.val || M.rel.any (outL M.worlds.toNat) then 2
  else 0
end Wt

/- Walks: model.all, outside, Check. -/
namespace Wt
open Go Go.RowKit Go.Proofs

set_option maxHeartbeats 1000000 in
theorem all_any (n : Nat) (w : World) :
    Calls Tryd.prog 90 #[.int .i64 (n : Int)] w fun e w' => e = .returned (.int .u64 (un (allW n))) ∧ w = w' := by
  by_cases h : 64 ≤ n
  · go_enter Tryd.func90, Tryd.ntmps90
    go_wp2
    go_ret
    exact ⟨by simp [allW, h, un_max], rfl⟩
  · go_enter Tryd.func90, Tryd.ntmps90
    go_wp2
    go_ret
    exact ⟨by simp [allW, h], rfl⟩
set_option maxHeartbeats 1000000 in
theorem indexFunc_u (F : Nat) (c : Value) (p : BitVec 64 → Bool) (a : Option Addr) (l : List (BitVec 64)) (cap : Nat) (w : World) (hr : RU w a l)
    (hF : ∀ args W, (callFunc F args).run Tryd.prog W = .ok (.enter F args) W)
    (hp : ∀ W s, Ext w W → Calls Tryd.prog F #[.int .u64 (un s), c] W fun e w' => e = .returned (.bool (p s)) ∧ Ext W w') :
    Calls Tryd.prog 132 #[.slice a l.length cap, .func (.func F) #[] #[c]] w fun e w' => (∃ i : Int, e = .returned (.int .i64 i) ∧ decide (0 ≤ i) = l.any p) ∧ Ext w w' := by
  have hl := hr.len
  have Hp := Lib.hid hp
  clear hp
  go_enter Tryd.func132, Tryd.ntmps132
  go_wp2
  go_loopw [8] (fun i wr => ∃ k : Nat, k ≤ l.length ∧ i = .int .i64 k ∧ Ext w wr ∧ Hid (∀ j, j < k → p (nth l j) = false)) (fun i _ => l.length - (intOf i).toNat)
  case atStart => exact ⟨0, Nat.zero_le _, rfl, Ext.refl _, fun _ h => absurd h (Nat.not_lt_zero _)⟩
  case round =>
    obtain ⟨k, hk, rfl, hE, hno⟩ := hrel
    by_cases hlt : k < l.length
    · obtain ⟨b, off, rfl, hc⟩ := (hr.ext hE).at_ k hlt
      go_wp2_with fail
      refine (Hp.out _ (nth l k) hE).mono ?_
      rintro e w1 ⟨rfl, hE1⟩
      cases hb : p (nth l k)
      all_goals have Hb := Lib.hid hb; clear hb
      · go_wp2
        go_roundw
        case rel => exact ⟨k + 1, hlt, by go_num, hE.trans hE1, lt_step hno Hb.out⟩
        case measure => simp [intOf]; omega
      · go_wp2
        go_ret
        exact ⟨⟨k, rfl, by rw [any_yes hlt Hb.out]; simp⟩, hE.trans hE1⟩
    · go_wp2
      go_ret
      exact ⟨⟨-1, rfl, by rw [any_no (fun j hj => hno j (by omega))]; rfl⟩, hE⟩
theorem cf_outside1 (args : Array Value) (W : World) : (callFunc 111 args).run Tryd.prog W = .ok (.enter 111 args) W := by
  simp [callFunc, Tryd.func111, Tryd.f111]
set_option maxHeartbeats 1000000 in
theorem containsFunc_u (F : Nat) (c : Value) (p : BitVec 64 → Bool) (a : Option Addr) (l : List (BitVec 64)) (cap : Nat) (w : World) (hr : RU w a l)
    (hF : ∀ args W, (callFunc F args).run Tryd.prog W = .ok (.enter F args) W)
    (hp : ∀ W s, Ext w W → Calls Tryd.prog F #[.int .u64 (un s), c] W fun e w' => e = .returned (.bool (p s)) ∧ Ext W w') :
    Calls Tryd.prog 110 #[.slice a l.length cap, .func (.func F) #[] #[c]] w fun e w' => e = .returned (.bool (l.any p)) ∧ Ext w w' := by
  have Hi := Lib.hid (indexFunc_u F c p a l cap w hr hF hp)
  clear hF hp
  go_enter Tryd.func110, Tryd.ntmps110
  go_wp2_with (go_at_call 132; refine (Hi.out).mono ?_; rintro e w1 ⟨⟨i, rfl, hi⟩, hE⟩; have HI := Lib.hid hi; clear hi)
  go_ret
  exact ⟨by rw [← HI.out]; simp, hE⟩
set_option maxHeartbeats 1000000 in
theorem outside1_any (n : Nat) (s : BitVec 64) (p : Addr) (w : World) (hp : w.cell? p = some (.int .i64 (n : Int))) :
    Calls Tryd.prog 111 #[.int .u64 (un s), .pointer (some p)] w fun e w' => e = .returned (.bool (outOne n s)) ∧ w = w' := by
  go_enter Tryd.func111, Tryd.ntmps111
  go_wp2_with (go_at_call 90; refine (all_any _ _).mono ?_; rintro e w1 ⟨rfl, rfl⟩)
  go_ret
  exact ⟨rfl, rfl⟩
set_option maxHeartbeats 1000000 in
theorem outside_any (n : Nat) (a : Option Addr) (l : List (BitVec 64)) (cap : Nat) (w : World) (hr : RU w a l) :
    Calls Tryd.prog 85 #[.slice a l.length cap, .int .i64 (n : Int)] w fun e w' => e = .returned (.bool (outL n l)) ∧ Ext w w' := by
  have Hc := Lib.hid (containsFunc_u 111 (.pointer (some ⟨w.heap.size, 0, none⟩)) (outOne n) a l cap (w.alloc (.cells #[.int .i64 (n : Int)] 3)) (hr.ext ((Ext.refl _).alloc _)) cf_outside1
    (fun W s hE => (outside1_any n s _ W (hE.cell (by simp))).mono fun e w' ⟨h1, h2⟩ => ⟨h1, h2 ▸ Ext.refl _⟩))
  go_enter Tryd.func85, Tryd.ntmps85
  go_wp2_with (go_at_call 110; refine (Hc.out).mono ?_; rintro e w1 ⟨rfl, hE⟩)
  go_ret
  exact ⟨rfl, ((Ext.refl w).alloc _).trans hE⟩
set_option maxHeartbeats 1000000 in
theorem modelCheck1_any (n : Nat) (a : Option Addr) (l : List (BitVec 64)) (cap : Nat) (b o : Nat) (w : World) (hp : w.cell? ⟨b, o, none⟩ = some (.int .i64 (n : Int))) (hr : RU w a l) :
    Calls Tryd.prog 86 #[.slice a l.length cap, .pointer (some ⟨b, o, none⟩)] w fun e w' => e = .returned (.bool (outL n l)) ∧ Ext w w' := by
  go_enter Tryd.func86, Tryd.ntmps86
  go_wp2_with (go_at_call 85; refine (outside_any _ _ _ _ _ hr).mono ?_; rintro e w1 ⟨rfl, hE⟩)
  go_ret
  exact ⟨rfl, hE⟩
theorem cf_modelCheck1 (args : Array Value) (W : World) : (callFunc 86 args).run Tryd.prog W = .ok (.enter 86 args) W := by
  simp [callFunc, Tryd.func86, Tryd.f86]
set_option maxHeartbeats 1000000 in
theorem indexFunc_r (F : Nat) (c : Value) (p : List (BitVec 64) → Bool) (a : Option Addr) (l : List (List (BitVec 64))) (cap : Nat) (w : World) (hr : RR w a l)
    (hF : ∀ args W, (callFunc F args).run Tryd.prog W = .ok (.enter F args) W)
    (hp : ∀ W a s c', Ext w W → RU W a s → Calls Tryd.prog F #[.slice a s.length c', c] W fun e w' => e = .returned (.bool (p s)) ∧ Ext W w') :
    Calls Tryd.prog 80 #[.slice a l.length cap, .func (.func F) #[] #[c]] w fun e w' => (∃ i : Int, e = .returned (.int .i64 i) ∧ decide (0 ≤ i) = l.any p) ∧ Ext w w' := by
  have hl := hr.len
  have Hp := Lib.hid hp
  clear hp
  go_enter Tryd.func80, Tryd.ntmps80
  go_wp2
  go_loopw [8] (fun i wr => ∃ k : Nat, k ≤ l.length ∧ i = .int .i64 k ∧ Ext w wr ∧ Hid (∀ j, j < k → p (nth l j) = false)) (fun i _ => l.length - (intOf i).toNat)
  case atStart => exact ⟨0, Nat.zero_le _, rfl, Ext.refl _, fun _ h => absurd h (Nat.not_lt_zero _)⟩
  case round =>
    obtain ⟨k, hk, rfl, hE, hno⟩ := hrel
    by_cases hlt : k < l.length
    · obtain ⟨b, off, a', c', rfl, hc, hu⟩ := (hr.ext hE).at_ k hlt
      go_wp2_with fail
      refine (Hp.out _ _ _ _ hE hu).mono ?_
      rintro e w1 ⟨rfl, hE1⟩
      cases hb : p (nth l k)
      all_goals have Hb := Lib.hid hb; clear hb
      · go_wp2
        go_roundw
        case rel => exact ⟨k + 1, hlt, by go_num, hE.trans hE1, lt_step hno Hb.out⟩
        case measure => simp [intOf]; omega
      · go_wp2
        go_ret
        exact ⟨⟨k, rfl, by rw [any_yes hlt Hb.out]; simp⟩, hE.trans hE1⟩
    · go_wp2
      go_ret
      exact ⟨⟨-1, rfl, by rw [any_no (fun j hj => hno j (by omega))]; rfl⟩, hE⟩
set_option maxHeartbeats 1000000 in
theorem containsFunc_r (F : Nat) (c : Value) (p : List (BitVec 64) → Bool) (a : Option Addr) (l : List (List (BitVec 64))) (cap : Nat) (w : World) (hr : RR w a l)
    (hF : ∀ args W, (callFunc F args).run Tryd.prog W = .ok (.enter F args) W)
    (hp : ∀ W a s c', Ext w W → RU W a s → Calls Tryd.prog F #[.slice a s.length c', c] W fun e w' => e = .returned (.bool (p s)) ∧ Ext W w') :
    Calls Tryd.prog 38 #[.slice a l.length cap, .func (.func F) #[] #[c]] w fun e w' => e = .returned (.bool (l.any p)) ∧ Ext w w' := by
  have Hi := Lib.hid (indexFunc_r F c p a l cap w hr hF hp)
  clear hF hp
  go_enter Tryd.func38, Tryd.ntmps38
  go_wp2_with (go_at_call 80; refine (Hi.out).mono ?_; rintro e w1 ⟨⟨i, rfl, hi⟩, hE⟩; have HI := Lib.hid hi; clear hi)
  go_ret
  exact ⟨by rw [← HI.out]; simp, hE⟩
end Wt

/- Walks: model.Check. -/
namespace Wt
open Go Go.RowKit Go.Proofs

/-- A model in memory: the value that is passed about. -/
structure RM (w : World) (va : Option Addr) (ra : Option Addr) (M : Mo) : Prop where
  val : RU w va M.val
  rel : RR w ra M.rel
theorem RM.ext {w w' : World} (h : Ext w w') {va ra : Option Addr} {M : Mo} (r : RM w va ra M) : RM w' va ra M := ⟨r.val.ext h, r.rel.ext h⟩
/-- Three cells hold a model. -/
structure MoBox (w : World) (b : Nat) (M : Mo) (va : Option Addr) (vc : Nat) (ra : Option Addr) (rc : Nat) : Prop where
  c0 : w.cell? ⟨b, 0, none⟩ = some (.int .i64 M.worlds)
  c1 : w.cell? ⟨b, 1, none⟩ = some (.slice va M.val.length vc)
  c2 : w.cell? ⟨b, 2, none⟩ = some (.slice ra M.rel.length rc)
theorem MoBox.ext {w w' : World} (h : Ext w w') {b : Nat} {M : Mo} {va : Option Addr} {vc : Nat} {ra : Option Addr} {rc : Nat} (r : MoBox w b M va vc ra rc) : MoBox w' b M va vc ra rc :=
  ⟨h.cell r.c0, h.cell r.c1, h.cell r.c2⟩
theorem MoBox.new (w : World) (W : Int) (V : List (BitVec 64)) (R : List (List (BitVec 64))) (va : Option Addr) (vc : Nat) (ra : Option Addr) (rc : Nat) (T : Nat) :
    MoBox (w.alloc (.cells #[.int .i64 W, .slice va V.length vc, .slice ra R.length rc] T)) w.heap.size ⟨W, V, R⟩ va vc ra rc :=
  ⟨by simp, by simp, by simp⟩
/-- The cells of a model. -/
def moV (M : Mo) (va : Option Addr) (vc : Nat) (ra : Option Addr) (rc : Nat) : Value :=
  .agg #[.int .i64 M.worlds, .slice va M.val.length vc, .slice ra M.rel.length rc]

set_option maxHeartbeats 2000000 in
theorem modelCheck_any (M : Mo) (va ra : Option Addr) (vc rc : Nat) (w : World) (hr : RM w va ra M) :
    Calls Tryd.prog 48 #[.agg #[.int .i64 M.worlds, .slice va M.val.length vc, .slice ra M.rel.length rc]] w fun e w' =>
      e = .returned (.int .i64 (moCheck M)) ∧ Ext w w' := by
  obtain ⟨W, V, R⟩ := M
  have hv := hr.val
  have hR := hr.rel
  have hvl := hv.len
  have hrl := hR.len
  clear hr
  dsimp only at *
  by_cases h1 : W < 1
  · have hn : moCheck ⟨W, V, R⟩ = 2 := by unfold moCheck; rw [if_pos (by simp [h1])]
    have HN := Lib.hid hn
    clear hn
    go_enter Tryd.func48, Tryd.ntmps48
    go_wp2
    go_ret
    exact ⟨by rw [HN.out]; rfl, (Ext.refl w).alloc _⟩
  · by_cases h2 : 64 < W
    · have hn : moCheck ⟨W, V, R⟩ = 2 := by unfold moCheck; rw [if_pos (by simp [h2])]
      have HN := Lib.hid hn
      clear hn
      go_enter Tryd.func48, Tryd.ntmps48
      go_wp2
      go_ret
      exact ⟨by rw [HN.out]; rfl, (Ext.refl w).alloc _⟩
    · obtain ⟨n, rfl⟩ := Int.eq_ofNat_of_zero_le (show 0 ≤ W by omega)
      by_cases h3 : 4 < R.length
      · have hn : moCheck ⟨n, V, R⟩ = 8 := by unfold moCheck; rw [if_neg (by simp; omega), if_pos (by simp [h3])]
        have HN := Lib.hid hn
        clear hn
        go_enter Tryd.func48, Tryd.ntmps48
        go_wp2
        go_ret
        exact ⟨by rw [HN.out]; rfl, (Ext.refl w).alloc _⟩
      · by_cases h4 : 8 < V.length
        · have hn : moCheck ⟨n, V, R⟩ = 8 := by unfold moCheck; rw [if_neg (by simp; omega), if_pos (by simp [h4])]
          have HN := Lib.hid hn
          clear hn
          go_enter Tryd.func48, Tryd.ntmps48
          go_wp2
          go_ret
          exact ⟨by rw [HN.out]; rfl, (Ext.refl w).alloc _⟩
        · have hn : moCheck ⟨n, V, R⟩ = if R.any (fun r => (r.length : Int) != n) then 3 else if outL n V || R.any (outL n) then 2 else 0 := by
            unfold moCheck; rw [if_neg (by simp; omega), if_neg (by simp; omega)]; simp
          have HN := Lib.hid hn
          clear hn
          go_enter Tryd.func48, Tryd.ntmps48
          go_wp2
          go_loop [26] (fun i => ∃ k : Nat, k ≤ R.length ∧ i = .int .i64 k ∧ Hid (∀ j, j < k → (((nth R j).length : Int) != n) = false)) (fun i => R.length - (intOf i).toNat)
          case atStart => exact ⟨0, Nat.zero_le _, rfl, fun _ h => absurd h (Nat.not_lt_zero _)⟩
          case round =>
            obtain ⟨k, hk, rfl, hno⟩ := hrel
            by_cases hlt : k < R.length
            · obtain ⟨b, off, a', c', rfl, hb, hc, hu⟩ := hR.get hlt
              have hul := hu.len
              by_cases hq : (((nth R k).length : Int) != n) = true
              · go_wp2
                go_ret
                refine ⟨?_, (Ext.refl w).alloc _⟩
                rw [HN.out, any_yes hlt hq]; rfl
              · have hq' : (((nth R k).length : Int) != n) = false := by simpa using hq
                clear hq
                go_wp2
                go_round
                case rel => exact ⟨k + 1, hlt, by go_num, lt_step hno hq'⟩
                case measure => simp [intOf]; omega
            · have hno2 : R.any (fun r => (r.length : Int) != n) = false := any_no (fun j hj => hno j (by omega))
              have HN2 := Lib.hid hno2
              clear hno2 hno
              have hE0 := (Ext.refl w).alloc (.cells #[.int .i64 (n : Int), .slice va V.length vc, .slice ra R.length rc] 25)
              have hv0 := hv.ext hE0
              have hR0 := hR.ext hE0
              have HE0 := Lib.hid hE0
              clear hE0
              go_wp2_with (first | (go_at_call 85; refine (outside_any _ _ _ _ _ hv0).mono ?_; rintro e w1 ⟨rfl, hE⟩; obtain ⟨hc1, hf1, hs1⟩ := hE.rules; cases hq : outL n V) | (go_at_call 38; refine (containsFunc_r 86 _ (outL n) _ _ _ _ (hR0.ext hE) cf_modelCheck1 (fun W a s c' hW hs => modelCheck1_any n a s c' _ _ W (hW.cell (by simp [*])) hs)).mono ?_; rintro e w2 ⟨rfl, hE2⟩))
              all_goals
                go_ret
                first
                  | exact ⟨by rw [HN.out, HN2.out]; simp [*], (HE0.out.trans hE).trans hE2⟩
                  | exact ⟨by rw [HN.out, HN2.out]; simp [*], HE0.out.trans hE⟩
end Wt
