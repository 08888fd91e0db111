/- Walks: formula.Check, Sub, Compact. -/
import Derived.Test.YtoacdccachhjdaaGreatDoorMAAg
import Derived.Test.YtoacdccachhjdaaGreatDoorMAAh
import Derived.Test.YtoacdccachhjdaaGreatDoorMAAa
import Derived.Test.YtoacdccachhjdaaGreatDoorMAAb
namespace Wt
open Go Go.RowKit Go.Maps Go.Proofs Fm

theorem errFrom_none (l : List Nd) : ∀ f k, (∀ j, k ≤ j → j < k + f → nodeErr (nth l j) j = 0) → errFrom l f k = 0
  | 0, _, _ => rfl
  | f + 1, k, h => by
    unfold errFrom
    rw [if_neg (by rw [h k (Nat.le_refl _) (by omega)]; simp)]
    exact errFrom_none l f (k + 1) (fun j h1 h2 => h j (by omega) (by omega))
theorem errFrom_first (l : List Nd) (k : Nat) : ∀ f a, a ≤ k → k < a + f → (∀ j, a ≤ j → j < k → nodeErr (nth l j) j = 0) → nodeErr (nth l k) k ≠ 0 → errFrom l f a = nodeErr (nth l k) k
  | 0, a, h1, h2, _, _ => by omega
  | f + 1, a, h1, h2, h3, h4 => by
    unfold errFrom
    by_cases e : a = k
    · subst e; rw [if_pos h4]
    · rw [if_neg (by rw [h3 a (Nat.le_refl _) (by omega)]; simp)]
      exact errFrom_first l k f (a + 1) (by omega) (by omega) (fun j h5 h6 => h3 j (by omega) h6) h4
theorem errFrom_zero (l : List Nd) : ∀ f k, errFrom l f k = 0 → ∀ j, k ≤ j → j < k + f → nodeErr (nth l j) j = 0
  | 0, k, _, j, h1, h2 => by omega
  | f + 1, k, h, j, h1, h2 => by
    unfold errFrom at h
    by_cases e : nodeErr (nth l k) k ≠ 0
    · rw [if_pos e] at h; exact absurd h e
    · rw [if_neg e] at h
      by_cases e2 : j = k
      · subst e2; simpa using e
      · exact errFrom_zero l f (k + 1) h j (by omega) (by omega)
/-- A formula that is right. -/
theorem fCheck_ok {l : List Nd} : fCheck l = 0 ↔ 0 < l.length ∧ l.length ≤ 200 ∧ Wf l := by
  unfold fCheck
  by_cases h1 : l.length = 0
  · simp [h1]
  · rw [if_neg h1]
    by_cases h2 : 200 < l.length
    · rw [if_pos h2]; constructor
      · intro h; omega
      · rintro ⟨_, h, _⟩; omega
    · rw [if_neg h2]
      constructor
      · intro h
        exact ⟨by omega, by omega, fun k hk => errFrom_zero l _ 0 h k (Nat.zero_le _) (by omega)⟩
      · rintro ⟨_, _, h⟩
        exact errFrom_none l _ 0 (fun j _ hj => h j (by omega))

set_option maxHeartbeats 1000000 in
theorem check_any (fa : Option Addr) (fc : Nat) (l : List Nd) (w : World) (hr : RN w fa l) :
    Calls Tryz.prog 89 #[.slice fa l.length fc] w fun e w' => e = .returned (.int .i64 (fCheck l)) ∧ Ext w w' := by
  have hl := hr.len
  by_cases h1 : l.length = 0
  · have hn : fCheck l = 3 := by unfold fCheck; rw [if_pos h1]
    have HN := Lib.hid hn
    have H1 : ((l.length : Int) == 0) = true := by simp [h1]
    clear hn h1
    go_enter Tryz.func89, Tryz.ntmps89
    go_wp2
    go_ret
    exact ⟨by rw [HN.out]; rfl, Ext.refl w⟩
  · by_cases h2 : 200 < l.length
    · have hn : fCheck l = 8 := by unfold fCheck; rw [if_neg h1, if_pos h2]
      have HN := Lib.hid hn
      have H1 : ((l.length : Int) == 0) = false := by simp [h1]
      clear hn h1
      go_enter Tryz.func89, Tryz.ntmps89
      go_wp2
      go_ret
      exact ⟨by rw [HN.out]; rfl, Ext.refl w⟩
    · have hn : fCheck l = errFrom l l.length 0 := by unfold fCheck; rw [if_neg h1, if_neg h2]
      have HN := Lib.hid hn
      have H1 : ((l.length : Int) == 0) = false := by simp [h1]
      clear hn h1
      go_enter Tryz.func89, Tryz.ntmps89
      go_wp2
      go_loopw [14] (fun i wr => ∃ k : Nat, k ≤ l.length ∧ i = .int .i64 k ∧ Ext w wr ∧ Hid (∀ j, 0 ≤ j → j < k → nodeErr (nth l j) j = 0)) (fun i _ => l.length - (intOf i).toNat)
      case atStart => exact ⟨0, Nat.zero_le _, rfl, Ext.refl _, fun _ _ h => absurd h (Nat.not_lt_zero _)⟩
      case round =>
        obtain ⟨k, hk, rfl, hE, hno⟩ := hrel
        by_cases hlt : k < l.length
        · obtain ⟨b, off, rfl, hb, n0, n1, n2, n3, n4, n5⟩ := (hr.ext hE).get hlt
          by_cases hq : nodeErr (nth l k) k = 0
          · have HQ := Lib.hid hq
            clear hq
            go_wp2_with (go_at_call 124; refine (nodeError_any (nth l k) _ _).mono ?_; rintro e w1 ⟨rfl, hE1⟩; rw [HQ.out])
            go_roundw
            case rel => exact ⟨k + 1, hlt, by go_num, (hE.alloc _).trans hE1, fun j h0 hj => by
              rcases Nat.lt_or_ge j k with h | h
              · exact hno j h0 h
              · obtain rfl : j = k := by omega
                exact HQ.out⟩
            case measure => simp [intOf]; omega
          · have HQ := Lib.hid hq
            have hq2 : (nodeErr (nth l k) k != 0) = true := by simp [hq]
            clear hq
            go_wp2_with (go_at_call 124; refine (nodeError_any (nth l k) _ _).mono ?_; rintro e w1 ⟨rfl, hE1⟩)
            go_ret
            exact ⟨by rw [HN.out, errFrom_first l k _ 0 (Nat.zero_le _) (by omega) hno HQ.out]; rfl, (hE.alloc _).trans hE1⟩
        · go_wp2
          go_ret
          exact ⟨by rw [HN.out, errFrom_none l _ 0 (fun j h0 hj => hno j h0 (by omega))]; rfl, hE⟩

/-- A slice of nodes, which may be nil, holds a list. -/
def RetN (l : List Nd) (e : Ending) (w w' : World) : Prop := ∃ a c, e = .returned (.slice a l.length c) ∧ RN w' a l ∧ Ext w w'
/-- The canonical list of the formula at a node. -/
def fSub (l : List Nd) (i : Int) : List Nd := if fCheck l = 0 ∧ 0 ≤ i ∧ i < l.length then canon (trAt l i.toNat) else []
def fCompact (l : List Nd) : List Nd := fSub l ((l.length : Int) - 1)

set_option maxHeartbeats 1000000 in
theorem sub_any (fa : Option Addr) (fc : Nat) (l : List Nd) (i : Int) (w : World) (hr : RN w fa l) :
    Calls Tryz.prog 94 #[.slice fa l.length fc, .int .i64 i] w fun e w' => RetN (fSub l i) e w w' := by
  have hl := hr.len
  by_cases h1 : fCheck l = 0
  · by_cases h2 : 0 ≤ i
    · by_cases h3 : i < l.length
      · obtain ⟨k, rfl⟩ := Int.eq_ofNat_of_zero_le h2
        have hf := fCheck_ok.1 h1
        have hn : fSub l k = canon (trAt l k) := by unfold fSub; rw [if_pos ⟨h1, h2, h3⟩]; rfl
        have HN := Lib.hid hn
        have H1 := Lib.hid h1
        have HW := Lib.hid hf.2.2
        have hl2 := hf.2.1
        clear hn h1 hf
        go_enter Tryz.func94, Tryz.ntmps94
        go_wp2_with (first | (go_at_call 89; refine (check_any _ _ _ _ hr).mono ?_; rintro e w1 ⟨rfl, hE⟩; rw [H1.out]) | (go_at_call 125; refine (compact_any _ _ l k _ (hr.ext hE) HW.out (by omega) (by omega)).mono ?_; rintro e w2 ⟨⟨a, c, rfl, hc⟩, hE2⟩))
        go_ret
        unfold RetN
        rw [HN.out, canon_length]
        exact ⟨_, _, rfl, hc, hE.trans hE2⟩
      · have hn : fSub l i = [] := by unfold fSub; rw [if_neg (by omega)]
        have HN := Lib.hid hn
        have H1 := Lib.hid h1
        clear hn h1
        go_enter Tryz.func94, Tryz.ntmps94
        go_wp2_with (go_at_call 89; refine (check_any _ _ _ _ hr).mono ?_; rintro e w1 ⟨rfl, hE⟩; rw [H1.out])
        go_ret
        unfold RetN
        rw [HN.out]
        exact ⟨none, 0, rfl, RN.nil _ _, hE⟩
    · have hn : fSub l i = [] := by unfold fSub; rw [if_neg (by omega)]
      have HN := Lib.hid hn
      have H1 := Lib.hid h1
      clear hn h1
      go_enter Tryz.func94, Tryz.ntmps94
      go_wp2_with (go_at_call 89; refine (check_any _ _ _ _ hr).mono ?_; rintro e w1 ⟨rfl, hE⟩; rw [H1.out])
      go_ret
      unfold RetN
      rw [HN.out]
      exact ⟨none, 0, rfl, RN.nil _ _, hE⟩
  · have hn : fSub l i = [] := by unfold fSub; rw [if_neg (by simp [h1])]
    have HN := Lib.hid hn
    have hq2 : (fCheck l != 0) = true := by simp [h1]
    clear hn h1
    go_enter Tryz.func94, Tryz.ntmps94
    go_wp2_with (go_at_call 89; refine (check_any _ _ _ _ hr).mono ?_; rintro e w1 ⟨rfl, hE⟩)
    go_ret
    unfold RetN
    rw [HN.out]
    exact ⟨none, 0, rfl, RN.nil _ _, hE⟩
set_option maxHeartbeats 1000000 in
theorem compactF_any (fa : Option Addr) (fc : Nat) (l : List Nd) (w : World) (hr : RN w fa l) :
    Calls Tryz.prog 46 #[.slice fa l.length fc] w fun e w' => RetN (fCompact l) e w w' := by
  have hl := hr.len
  go_enter Tryz.func46, Tryz.ntmps46
  go_wp2_with (go_at_call 94; refine (sub_any _ _ l _ _ hr).mono ?_; rintro e w1 ⟨a, c, rfl, hc, hE⟩)
  go_ret
  exact ⟨_, _, rfl, hc, hE⟩
end Wt

/- Walks: formula.union, Frags, Facts, Agents, Fits. -/
namespace Wt
open Go Go.RowKit Go.Maps Go.Proofs Fm

def unionL (m : Nd → Nat) (l : List Nd) : Nat := l.foldl (fun a n => a ||| m n) 0
theorem unionL_snoc (m : Nd → Nat) (l : List Nd) (k : Nat) (hk : k < l.length) : unionL m (l.take (k + 1)) = unionL m (l.take k) ||| m (nth l k) := by
  unfold unionL
  rw [List.take_succ_eq_append_getElem hk, List.foldl_append, nth_eq l k hk]; rfl
theorem foldl_or_lt (m : Nd → Nat) (hm : ∀ n, m n < 512) : ∀ (l : List Nd) (a : Nat), a < 512 → l.foldl (fun a n => a ||| m n) a < 512
  | [], _, h => h
  | n :: l, a, h => foldl_or_lt m hm l _ (show a ||| m n < 2 ^ 9 from Nat.or_lt_two_pow h (hm n))
theorem unionL_lt (m : Nd → Nat) (hm : ∀ n, m n < 512) (l : List Nd) : unionL m l < 512 := foldl_or_lt m hm l 0 (by omega)

set_option maxHeartbeats 1000000 in
theorem union_any (F : Nat) (m : Nd → Nat) (fa : Option Addr) (fc : Nat) (l : List Nd) (w : World) (hr : RN w fa l) (hm : ∀ n, m n < 512)
    (hF : ∀ args W, (callFunc F args).run Tryz.prog W = .ok (.enter F args) W)
    (hp : ∀ W n u, Ext w W → n ∈ fCompact l → useOf n.op = (u, true) → Calls Tryz.prog F #[.agg #[.int .i64 n.op, .int .i64 n.i, .int .i64 n.e, .int .i64 n.g, .int .i64 n.x, .int .i64 n.y], .agg #[.bool u.x, .bool u.y, .bool u.fact, .bool u.agent, .bool u.group, .bool u.event, .int .i64 u.frag]] W fun e w' => e = .returned (.int .i64 (m n : Int)) ∧ Ext W w')
    (hok : ∀ n ∈ fCompact l, (useOf n.op).2 = true) (hlen : (fCompact l).length ≤ 1000) :
    Calls Tryz.prog 132 #[.slice fa l.length fc, .func (.func F) #[] #[]] w fun e w' => e = .returned (.int .i64 (unionL m (fCompact l) : Int)) ∧ Ext w w' := by
  have hl := hr.len
  have Hp := Lib.hid hp
  have Hok := Lib.hid hok
  have Hm := Lib.hid hm
  clear hp hok hm
  go_enter Tryz.func132, Tryz.ntmps132
  go_wp2_with (go_at_call 46; refine (compactF_any _ _ l _ hr).mono ?_; rintro e w1 ⟨a, c, rfl, hc, hE⟩; generalize hL : fCompact l = L at Hp Hok hlen hc ⊢; have HL := Lib.hid hL; clear hL)
  go_loopw [5, 13] (fun o i wr => ∃ k : Nat, k ≤ L.length ∧ i = .int .i64 k ∧ o = .int .i64 (unionL m (L.take k) : Int) ∧ Ext w1 wr) (fun _ i _ => L.length - (intOf i).toNat)
  case atStart => exact ⟨0, Nat.zero_le _, rfl, rfl, Ext.refl _⟩
  case round =>
    obtain ⟨k, hk, rfl, rfl, hE1⟩ := hrel
    by_cases hlt : k < L.length
    · obtain ⟨b, off, rfl, hb, n0, n1, n2, n3, n4, n5⟩ := (hc.ext hE1).get hlt
      have hmem : nth L k ∈ L := by rw [nth_eq L k hlt]; exact List.getElem_mem hlt
      rcases hu : useOf (nth L k).op with ⟨u, ok⟩
      have hok1 := Hok.out _ hmem
      rw [hu] at hok1
      subst hok1
      have HU := Lib.hid hu
      have hor := or_nat (unionL m (L.take k)) (m (nth L k)) (by have := unionL_lt m Hm.out (L.take k); omega) (by have := Hm.out (nth L k); omega)
      have hsn := unionL_snoc m L k hlt
      have HS := Lib.hid hsn
      have HO := Lib.hid hmem
      clear hu hsn hmem
      go_wp2_with (go_at_call 123; refine (uses_any _ u true HU.out _).mono ?_; rintro e w2 ⟨rfl, hE2⟩; obtain ⟨x0, x1, x2, x3, x4, x5⟩ := (NdAt.new wr (nth L k) 109).ext hE2; have qx : wr.heap.size < w2.heap.size := by have := Ext.size hE2; simp at this; omega)
      refine (Hp.out _ (nth L k) u ?_ HO.out HU.out).mono ?_
      · exact (((hE.trans hE1).alloc _).trans hE2).alloc _
      rintro e w3 ⟨rfl, hE3⟩
      go_wp2
      go_roundw
      case rel => exact ⟨k + 1, hlt, by go_num, by rw [HS.out], (((hE1.alloc _).trans hE2).alloc _).trans hE3⟩
      case measure => simp [intOf]; omega
    · go_wp2
      go_ret
      refine ⟨?_, hE.trans hE1⟩
      rw [HL.out, List.take_of_length_le (by omega)]
      rfl

theorem useOf_frag (op : Int) : 0 ≤ (useOf op).1.frag ∧ (useOf op).1.frag < 512 := by
  by_cases h : (useOf op).2 = true
  · rcases useOf_cases op h with rfl | rfl | rfl | rfl | rfl | rfl | rfl | rfl | rfl | rfl | rfl | rfl | rfl | rfl | rfl | rfl | rfl | rfl | rfl | rfl | rfl <;> decide
  · rw [useOf_no op h]; decide
theorem addT_range {l : List Nd} (hw : Wf l) : ∀ (n k : Nat), k < n → k < l.length → ∀ L s, s ∈ addT (trAt l k) L → s ∈ L ∨ s ∈ (List.range l.length).map (trAt l)
  | 0, _, h, _, _, _, _ => absurd h (Nat.not_lt_zero _)
  | n + 1, k, hn, hk, L, s, hs => by
    have hself : trAt l k ∈ (List.range l.length).map (trAt l) := List.mem_map.2 ⟨k, by simpa using hk, rfl⟩
    have hput : ∀ (t : Fm) (M : List Fm), s ∈ put t M → s ∈ M ∨ s = t := by
      intro t M h
      unfold put at h
      split at h
      · exact .inl h
      · simpa using h
    by_cases hx : (useOf (nth l k).op).1.x = true
    · obtain ⟨_, hxl⟩ := hw.x_lt hk hx
      by_cases hy : (useOf (nth l k).op).1.y = true
      · obtain ⟨_, hyl⟩ := hw.y_lt hk hy
        have ht := trAt_bin hw hk hy
        rw [ht] at hs
        rcases hput _ _ hs with h | h
        · rcases addT_range hw n _ (by omega) (by omega) _ s h with h | h
          · exact addT_range hw n _ (by omega) (by omega) _ s h
          · exact .inr h
        · rw [h, ← ht]; exact .inr hself
      · have ht := trAt_un hw hk hx (by simpa using hy)
        rw [ht] at hs
        rcases hput _ _ hs with h | h
        · exact addT_range hw n _ (by omega) (by omega) _ s h
        · rw [h, ← ht]; exact .inr hself
    · have ht := trAt_leaf hk (by simpa using hx)
      rw [ht] at hs
      rcases hput _ _ hs with h | h
      · exact .inl h
      · rw [h, ← ht]; exact .inr hself
theorem fsize_le {l : List Nd} (hw : Wf l) {k : Nat} (hk : k < l.length) : fsize (trAt l k) ≤ l.length := by
  have := nodup_sub_len (L := addT (trAt l k) []) (M := (List.range l.length).map (trAt l)) (addT_nodup _ List.nodup_nil) (fun s hs => by
    rcases addT_range hw (k + 1) k (Nat.lt_succ_self k) hk [] s hs with h | h
    · simp at h
    · exact h)
  simpa [fsize] using this
/-- What a node of a canonical list is like. -/
structure NdOk (n : Nd) : Prop where
  op : (useOf n.op).2 = true
  fact : (useOf n.op).1.fact = true → 0 ≤ n.i ∧ n.i ≤ 7
  agent : (useOf n.op).1.agent = true → 0 ≤ n.i ∧ n.i ≤ 3
  group : (useOf n.op).1.group = true → 1 ≤ n.g ∧ n.g ≤ 15
  nogroup : (useOf n.op).1.group = false → n.g = 0
theorem ndOk_of {o i e g x y : Int} (h1 : (useOf o).2 = true) (h2 : needless (useOf o).1 ⟨o, i, e, g, 0, 0⟩ = false) (h3 : wide (useOf o).1 ⟨o, i, e, g, 0, 0⟩ = false) : NdOk ⟨o, i, e, g, x, y⟩ := by
  obtain ⟨fr, h' | h' | h' | h' | h' | h' | h' | h' | h'⟩ := useOf_pat o h1 <;> rw [h'] at h2 h3 <;> simp [needless, wide, outs] at h2 h3 <;> (refine ⟨h1, ?_, ?_, ?_, ?_⟩ <;> (dsimp only; rw [h']; simp) <;> omega)
theorem canon_ok {t : Fm} (ht : fok t) : ∀ n ∈ canon t, NdOk n := by
  intro n hn
  obtain ⟨s, hs, rfl⟩ := List.mem_map.1 hn
  have hok : fok s := AllOk.addT t (fun _ h => by simp at h) ht s hs
  cases s with
  | leaf o i e g => exact ndOk_of hok.1 hok.2.2.1 hok.2.2.2
  | un o i e g x => exact ndOk_of hok.1 hok.2.2.2.1 hok.2.2.2.2.1
  | bin o i e g x y => exact ndOk_of hok.1 hok.2.2.1 hok.2.2.2.1
theorem fCompact_of {l : List Nd} (h : fCheck l = 0) : fCompact l = canon (trAt l (l.length - 1)) ∧ l.length - 1 < l.length := by
  have := (fCheck_ok.1 h).1
  unfold fCompact fSub
  rw [if_pos ⟨h, by omega, by omega⟩]
  exact ⟨by congr 2; omega, by omega⟩
theorem fCompact_no {l : List Nd} (h : fCheck l ≠ 0) : fCompact l = [] := by
  unfold fCompact fSub; rw [if_neg (by simp [h])]
theorem fCompact_ok (l : List Nd) : (∀ n ∈ fCompact l, NdOk n) ∧ (fCompact l).length ≤ 200 := by
  by_cases h : fCheck l = 0
  · obtain ⟨e, hk⟩ := fCompact_of h
    obtain ⟨_, h2, hw⟩ := fCheck_ok.1 h
    rw [e]
    exact ⟨canon_ok (fok_trAt hw _ _ (Nat.lt_succ_self _) hk), by rw [canon_length]; exact Nat.le_trans (fsize_le hw hk) h2⟩
  · rw [fCompact_no h]; exact ⟨fun _ h => by simp at h, by simp⟩

def fragN (n : Nd) : Nat := (useOf n.op).1.frag.toNat
def factN (n : Nd) : Nat := if (useOf n.op).1.fact then 2 ^ (n.i.toNat % 9) else 0
def agentN (n : Nd) : Nat := if (useOf n.op).1.agent then 2 ^ (n.i.toNat % 9) else n.g.toNat % 512
theorem fragN_lt (n : Nd) : fragN n < 512 := by have := useOf_frag n.op; unfold fragN; omega
theorem pow9_lt (k : Nat) : 2 ^ (k % 9) < 512 := by
  have h : k % 9 < 9 := Nat.mod_lt _ (by omega)
  have := Nat.pow_lt_pow_right (a := 2) (by omega) h
  omega
theorem factN_lt (n : Nd) : factN n < 512 := by
  unfold factN; split
  · exact pow9_lt _
  · omega
theorem agentN_lt (n : Nd) : agentN n < 512 := by
  unfold agentN; split
  · exact pow9_lt _
  · omega
def fFrags (l : List Nd) : Nat := unionL fragN (fCompact l)
def fFacts (l : List Nd) : Nat := unionL factN (fCompact l)
def fAgents (l : List Nd) : Nat := unionL agentN (fCompact l)
theorem cf_frags1 (args : Array Value) (W : World) : (callFunc 133 args).run Tryz.prog W = .ok (.enter 133 args) W := by
  simp [callFunc, Tryz.func133, Tryz.f133]
theorem cf_facts1 (args : Array Value) (W : World) : (callFunc 167 args).run Tryz.prog W = .ok (.enter 167 args) W := by
  simp [callFunc, Tryz.func167, Tryz.f167]
theorem cf_agents1 (args : Array Value) (W : World) : (callFunc 166 args).run Tryz.prog W = .ok (.enter 166 args) W := by
  simp [callFunc, Tryz.func166, Tryz.f166]
set_option maxHeartbeats 1000000 in
theorem frags1_any (n : Nd) (u : Use) (hu : useOf n.op = (u, true)) (w : World) :
    Calls Tryz.prog 133 #[.agg #[.int .i64 n.op, .int .i64 n.i, .int .i64 n.e, .int .i64 n.g, .int .i64 n.x, .int .i64 n.y], .agg #[.bool u.x, .bool u.y, .bool u.fact, .bool u.agent, .bool u.group, .bool u.event, .int .i64 u.frag]] w
      fun e w' => e = .returned (.int .i64 (fragN n : Int)) ∧ Ext w w' := by
  have hf : u.frag = (fragN n : Int) := by have := useOf_frag n.op; unfold fragN; rw [hu] at this ⊢; dsimp only at this ⊢; omega
  have HF := Lib.hid hf
  clear hf hu
  go_enter Tryz.func133, Tryz.ntmps133
  go_wp2
  go_ret
  exact ⟨by rw [← HF.out]; rfl, ((Ext.refl w).alloc _).alloc _⟩
set_option maxHeartbeats 1000000 in
theorem facts1_any (n : Nd) (u : Use) (hu : useOf n.op = (u, true)) (hn : NdOk n) (w : World) :
    Calls Tryz.prog 167 #[.agg #[.int .i64 n.op, .int .i64 n.i, .int .i64 n.e, .int .i64 n.g, .int .i64 n.x, .int .i64 n.y], .agg #[.bool u.x, .bool u.y, .bool u.fact, .bool u.agent, .bool u.group, .bool u.event, .int .i64 u.frag]] w
      fun e w' => e = .returned (.int .i64 (factN n : Int)) ∧ Ext w w' := by
  obtain ⟨ux, uy, uf, ua, ug, ue, fr⟩ := u
  cases huf : uf
  · subst huf
    have hf : factN n = 0 := by unfold factN; rw [hu]; rfl
    have HF := Lib.hid hf
    clear hf hu hn
    go_enter Tryz.func167, Tryz.ntmps167
    go_wp2
    go_ret
    exact ⟨by rw [HF.out]; rfl, ((Ext.refl w).alloc _).alloc _⟩
  · subst huf
    obtain ⟨h0, h7⟩ := hn.fact (by rw [hu])
    have hf : factN n = 2 ^ n.i.toNat := by unfold factN; rw [hu]; simp only [if_true]; congr 1; omega
    obtain ⟨nop, ni, ne, ng, nx, ny⟩ := n
    dsimp only at *
    have HF := Lib.hid hf
    clear hf hu hn
    rcases (show ni = 0 ∨ ni = 1 ∨ ni = 2 ∨ ni = 3 ∨ ni = 4 ∨ ni = 5 ∨ ni = 6 ∨ ni = 7 by omega) with rfl | rfl | rfl | rfl | rfl | rfl | rfl | rfl
    all_goals
      clear h0 h7
      go_enter Tryz.func167, Tryz.ntmps167
      go_wp2
      go_ret
      exact ⟨by rw [HF.out]; rfl, ((Ext.refl w).alloc _).alloc _⟩
set_option maxHeartbeats 1000000 in
theorem agents1_any (n : Nd) (u : Use) (hu : useOf n.op = (u, true)) (hn : NdOk n) (w : World) :
    Calls Tryz.prog 166 #[.agg #[.int .i64 n.op, .int .i64 n.i, .int .i64 n.e, .int .i64 n.g, .int .i64 n.x, .int .i64 n.y], .agg #[.bool u.x, .bool u.y, .bool u.fact, .bool u.agent, .bool u.group, .bool u.event, .int .i64 u.frag]] w
      fun e w' => e = .returned (.int .i64 (agentN n : Int)) ∧ Ext w w' := by
  obtain ⟨ux, uy, uf, ua, ug, ue, fr⟩ := u
  cases huf : ua
  · subst huf
    have hg : 0 ≤ n.g ∧ n.g ≤ 15 := by
      cases hug : ug
      · have := hn.nogroup (by rw [hu]; exact hug); omega
      · have := hn.group (by rw [hu]; exact hug); omega
    have hf : n.g = (agentN n : Int) := by unfold agentN; rw [hu]; simp only [Bool.false_eq_true, if_false]; omega
    have HF := Lib.hid hf
    clear hf hu hn
    go_enter Tryz.func166, Tryz.ntmps166
    go_wp2
    go_ret
    exact ⟨by rw [← HF.out]; rfl, ((Ext.refl w).alloc _).alloc _⟩
  · subst huf
    obtain ⟨h0, h7⟩ := hn.agent (by rw [hu])
    have hf : agentN n = 2 ^ n.i.toNat := by unfold agentN; rw [hu]; simp only [if_true]; congr 1; omega
    obtain ⟨nop, ni, ne, ng, nx, ny⟩ := n
    dsimp only at *
    have HF := Lib.hid hf
    clear hf hu hn
    rcases (show ni = 0 ∨ ni = 1 ∨ ni = 2 ∨ ni = 3 by omega) with rfl | rfl | rfl | rfl
    all_goals
      clear h0 h7
      go_enter Tryz.func166, Tryz.ntmps166
      go_wp2
      go_ret
      exact ⟨by rw [HF.out]; rfl, ((Ext.refl w).alloc _).alloc _⟩
set_option maxHeartbeats 1000000 in
theorem frags_any (fa : Option Addr) (fc : Nat) (l : List Nd) (w : World) (hr : RN w fa l) :
    Calls Tryz.prog 90 #[.slice fa l.length fc] w fun e w' => e = .returned (.int .i64 (fFrags l : Int)) ∧ Ext w w' := by
  have H := Lib.hid (union_any _ fragN fa fc l w hr fragN_lt cf_frags1 (fun W n u _ _ hu => frags1_any n u hu W) (fun n hn => ((fCompact_ok l).1 n hn).op) (by have := (fCompact_ok l).2; omega))
  go_enter Tryz.func90, Tryz.ntmps90
  go_wp2_with (go_at_call 132; refine H.out.mono ?_; rintro e w1 ⟨rfl, hE⟩)
  go_ret
  exact ⟨rfl, hE⟩
set_option maxHeartbeats 1000000 in
theorem facts_any (fa : Option Addr) (fc : Nat) (l : List Nd) (w : World) (hr : RN w fa l) :
    Calls Tryz.prog 136 #[.slice fa l.length fc] w fun e w' => e = .returned (.int .i64 (fFacts l : Int)) ∧ Ext w w' := by
  have H := Lib.hid (union_any _ factN fa fc l w hr factN_lt cf_facts1 (fun W n u _ hm hu => facts1_any n u hu ((fCompact_ok l).1 n hm) W) (fun n hn => ((fCompact_ok l).1 n hn).op) (by have := (fCompact_ok l).2; omega))
  go_enter Tryz.func136, Tryz.ntmps136
  go_wp2_with (go_at_call 132; refine H.out.mono ?_; rintro e w1 ⟨rfl, hE⟩)
  go_ret
  exact ⟨rfl, hE⟩
set_option maxHeartbeats 1000000 in
theorem agents_any (fa : Option Addr) (fc : Nat) (l : List Nd) (w : World) (hr : RN w fa l) :
    Calls Tryz.prog 135 #[.slice fa l.length fc] w fun e w' => e = .returned (.int .i64 (fAgents l : Int)) ∧ Ext w w' := by
  have H := Lib.hid (union_any _ agentN fa fc l w hr agentN_lt cf_agents1 (fun W n u _ hm hu => agents1_any n u hu ((fCompact_ok l).1 n hm) W) (fun n hn => ((fCompact_ok l).1 n hn).op) (by have := (fCompact_ok l).2; omega))
  go_enter Tryz.func135, Tryz.ntmps135
  go_wp2_with (go_at_call 132; refine H.out.mono ?_; rintro e w1 ⟨rfl, hE⟩)
  go_ret
  exact ⟨rfl, hE⟩
end Wt

/- Walks: formula.Fits. -/
namespace Wt
open Go Go.RowKit Go.Maps Go.Proofs Fm

def below (mask n : Nat) : Bool := decide (31 ≤ n) || mask >>> n == 0
theorem below_eq (mask n : Nat) : below mask n = (decide (31 ≤ (n : Int)) || ((mask : Int) / 2 ^ n == 0)) := by
  unfold below
  congr 1
  · rw [decide_eq_decide]; omega
  · rw [Nat.shiftRight_eq_div_pow, Bool.eq_iff_iff]; simp only [beq_iff_eq]
    have : ((mask : Int) / 2 ^ n) = ((mask / 2 ^ n : Nat) : Int) := by simp
    rw [this]; omega
theorem sr_eq0 (g n : Nat) : (sr g n == 0) = (g >>> n == 0) := by
  unfold sr; rw [Bool.eq_iff_iff]; simp only [beq_iff_eq]; omega
theorem max_zero (n : Nat) : max (n : Int) 0 = (n : Int) := by omega
set_option maxHeartbeats 1000000 in
theorem fits1_any (mask n : Nat) (_hm : mask < 512) (w : World) :
    Calls Tryz.prog 134 #[.int .i64 (mask : Int), .int .i64 (n : Int)] w fun e w' => e = .returned (.bool (below mask n)) ∧ w = w' := by
  by_cases h : 31 ≤ n
  · have hb : below mask n = true := by unfold below; simp [h]
    have HB := Lib.hid hb
    clear hb
    go_enter Tryz.func134, Tryz.ntmps134
    go_wp2
    go_ret
    exact ⟨by rw [HB.out]; rfl, rfl⟩
  · have hx := max_zero n
    have HB := Lib.hid (below_eq mask n)
    go_enter Tryz.func134, Tryz.ntmps134
    go_wp2
    all_goals
      go_ret
      exact ⟨by rw [HB.out]; rfl, rfl⟩
def fFits (l : List Nd) (a f : Nat) : Bool := fCheck l == 0 && below (fAgents l) a && below (fFacts l) f
set_option maxHeartbeats 1000000 in
theorem fits_any (fa : Option Addr) (fc : Nat) (l : List Nd) (a f : Nat) (w : World) (hr : RN w fa l) :
    Calls Tryz.prog 91 #[.slice fa l.length fc, .int .i64 (a : Int), .int .i64 (f : Int)] w fun e w' => e = .returned (.bool (fFits l a f)) ∧ Ext w w' := by
  have ha := unionL_lt agentN agentN_lt (fCompact l)
  have hf := unionL_lt factN factN_lt (fCompact l)
  by_cases h1 : fCheck l = 0
  · have H1 := Lib.hid h1
    cases h2 : below (fAgents l) a
    · have hn : fFits l a f = false := by unfold fFits; rw [h2]; simp
      have HN := Lib.hid hn
      have H2 := Lib.hid h2
      clear h1 h2 hn
      go_enter Tryz.func91, Tryz.ntmps91
      go_wp2_with (first | (go_at_call 89; refine (check_any _ _ l _ hr).mono ?_; rintro e w1 ⟨rfl, hE⟩; rw [H1.out]) | (go_at_call 135; refine (agents_any _ _ l _ (hr.ext hE)).mono ?_; rintro e w2 ⟨rfl, hE2⟩) | (go_at_call 134; refine (fits1_any (fAgents l) a ha _).mono ?_; rintro e w3 ⟨rfl, rfl⟩; rw [H2.out]))
      go_ret
      exact ⟨by rw [HN.out]; rfl, hE.trans hE2⟩
    · have hn : fFits l a f = below (fFacts l) f := by unfold fFits; rw [h1, h2]; simp
      have HN := Lib.hid hn
      have H2 := Lib.hid h2
      clear h1 h2 hn
      go_enter Tryz.func91, Tryz.ntmps91
      go_wp2_with (first | (go_at_call 89; refine (check_any _ _ l _ hr).mono ?_; rintro e w1 ⟨rfl, hE⟩; rw [H1.out]) | (go_at_call 135; refine (agents_any _ _ l _ (hr.ext hE)).mono ?_; rintro e w2 ⟨rfl, hE2⟩; have hE3 := hE.trans hE2) | (go_at_call 136; refine (facts_any _ _ l _ (hr.ext hE3)).mono ?_; rintro e w4 ⟨rfl, hE4⟩; have tok := hE4) | (go_at_call 134; have _t := tok; refine (fits1_any (fFacts l) f hf _).mono ?_; rintro e w3 ⟨rfl, rfl⟩) | (go_at_call 134; refine (fits1_any (fAgents l) a ha _).mono ?_; rintro e w3 ⟨rfl, rfl⟩; rw [H2.out]))
      go_ret
      exact ⟨by rw [HN.out]; rfl, hE3.trans hE4⟩
  · have hn : fFits l a f = false := by unfold fFits; simp [h1]
    have HN := Lib.hid hn
    have hq2 : (fCheck l == 0) = false := by simp [h1]
    clear h1 hn
    go_enter Tryz.func91, Tryz.ntmps91
    go_wp2_with (go_at_call 89; refine (check_any _ _ l _ hr).mono ?_; rintro e w1 ⟨rfl, hE⟩)
    go_ret
    exact ⟨by rw [HN.out]; rfl, hE⟩
end Wt

/- Plain: bits of sets, boxes, common knowledge as an iteration, the value of a node, the value of a tree. -/
namespace Wt
open Go Go.RowKit Go.Proofs Fm

section
variable (s t : BitVec 64) (k : Nat)
theorem bt_ext {s t : BitVec 64} (h : ∀ k, k < 64 → bt s k = bt t k) : s = t := BitVec.eq_of_getLsbD_eq h
theorem bt_ge (h : 64 ≤ k) : bt s k = false := BitVec.getLsbD_of_ge s k h
theorem bt_and : bt (s &&& t) k = (bt s k && bt t k) := by simp [bt]
theorem bt_or : bt (s ||| t) k = (bt s k || bt t k) := by simp [bt]
theorem bt_xor : bt (s ^^^ t) k = (bt s k ^^ bt t k) := by simp [bt]
theorem bt_not : bt (~~~ s) k = (decide (k < 64) && !bt s k) := by simp [bt]
theorem bt_zero : bt 0#64 k = false := by simp [bt]
theorem bt_shl1 (n : Nat) : bt (1#64 <<< n) k = (decide (k < 64) && decide (k = n)) := by
  simp only [bt, BitVec.getLsbD_shiftLeft, BitVec.getLsbD_one]
  rw [Bool.eq_iff_iff]; simp; omega
theorem bt_max : bt 18446744073709551615#64 k = decide (k < 64) := by
  have e : (18446744073709551615#64 : BitVec 64) = BitVec.allOnes 64 := by decide
  unfold bt; rw [e, BitVec.getLsbD_allOnes]
theorem bt_allW (n : Nat) : bt (allW n) k = (decide (k < 64) && decide (k < n)) := by
  unfold allW
  split
  · rw [bt_max, Bool.eq_iff_iff]; simp; omega
  · have e : ((1#64 <<< n) - 1#64 : BitVec 64).toNat = 2 ^ n - 1 := by
      have h2 : 2 ^ n < 2 ^ 64 := Nat.pow_lt_pow_right (by omega) (by omega)
      have h3 : 0 < 2 ^ n := Nat.pos_of_ne_zero (by simp)
      rw [BitVec.toNat_sub, BitVec.toNat_shiftLeft]
      simp only [BitVec.toNat_ofNat, Nat.shiftLeft_eq]
      rw [show 1 % 2 ^ 64 = 1 from rfl, Nat.one_mul, Nat.mod_eq_of_lt h2]
      omega
    unfold bt
    rw [← BitVec.testBit_toNat, e, Nat.testBit_two_pow_sub_one, Bool.eq_iff_iff]; simp; omega
/-- One set within another. -/
def Sub (s t : BitVec 64) : Prop := ∀ k, k < 64 → bt s k = true → bt t k = true
theorem Sub.refl : Sub s s := fun _ _ h => h
theorem Sub.trans {s t u : BitVec 64} (h : Sub s t) (h2 : Sub t u) : Sub s u := fun k hk hb => h2 k hk (h k hk hb)
theorem Sub.antisymm {s t : BitVec 64} (h : Sub s t) (h2 : Sub t s) : s = t := bt_ext fun k hk => by rw [Bool.eq_iff_iff]; exact ⟨h k hk, h2 k hk⟩
theorem andNot_zero {s t : BitVec 64} : s &&& ~~~ t = 0#64 ↔ Sub s t := by
  constructor
  · intro h k hk hb
    have := congrArg (fun x => bt x k) h
    simp only [bt_and, bt_not, bt_zero] at this
    simpa [hb, hk] using this
  · intro h
    refine bt_ext fun k hk => ?_
    rw [bt_and, bt_not, bt_zero]
    have := h k hk
    cases hs : bt s k
    · simp
    · simp [this hs]
theorem sub_toNat {s t : BitVec 64} (h : Sub s t) : s.toNat ≤ t.toNat := by
  have : s = s &&& t := bt_ext fun k hk => by
    rw [bt_and]
    have := h k hk
    cases hs : bt s k
    · simp
    · simp [this hs]
  rw [this, BitVec.toNat_and]
  exact Nat.and_le_right
end
theorem sub_toNat_lt {s t : BitVec 64} (h : Sub s t) (hn : s ≠ t) : s.toNat < t.toNat := by
  have h1 := sub_toNat h
  have h2 : s.toNat ≠ t.toNat := fun e => hn (BitVec.eq_of_toNat_eq e)
  omega

theorem bt_boxTo (r : List (BitVec 64)) (s : BitVec 64) : ∀ n k, k < 64 → bt (boxTo r s n) k = (decide (k < n) && (nth r k &&& ~~~ s == 0#64))
  | 0, k, _ => by simp [boxTo, bt_zero]
  | n + 1, k, hk => by
    unfold boxTo
    by_cases e : k = n
    · subst e
      by_cases h : (nth r k &&& ~~~ s) = 0#64
      · rw [if_pos h, bt_or, bt_shl1, h]; simp [hk]
      · rw [if_neg h, bt_boxTo r s k k hk]; simp [h]
    · by_cases h : (nth r n &&& ~~~ s) = 0#64
      · rw [if_pos h, bt_or, bt_shl1, bt_boxTo r s n k hk, Bool.eq_iff_iff]; simp [e]; omega
      · rw [if_neg h, bt_boxTo r s n k hk, Bool.eq_iff_iff]; simp; omega
theorem bt_relBox (r : List (BitVec 64)) (s : BitVec 64) (k : Nat) (hk : k < 64) : bt (relBox r s) k = (decide (relCheck r = 0) && decide (k < r.length) && (nth r k &&& ~~~ s == 0#64)) := by
  unfold relBox
  by_cases h : relCheck r = 0
  · rw [if_pos h, bt_boxTo r s _ k hk]; simp [h]
  · rw [if_neg h, bt_zero]; simp [h]
theorem relBox_mono (r : List (BitVec 64)) {s t : BitVec 64} (h : Sub s t) : Sub (relBox r s) (relBox r t) := by
  intro k hk
  rw [bt_relBox _ _ _ hk, bt_relBox _ _ _ hk]
  simp only [Bool.and_eq_true, decide_eq_true_eq, beq_iff_eq, andNot_zero]
  rintro ⟨h1, h2⟩
  exact ⟨h1, h2.trans h⟩

/-- One step of common knowledge. -/
def cmnF (r : List (BitVec 64)) (n : Nat) (c s o : BitVec 64) : BitVec 64 := relBox r ((allW n &&& ~~~ c) ||| (s &&& o))
def cmnI (r : List (BitVec 64)) (n : Nat) (c s : BitVec 64) : Nat → BitVec 64
  | 0 => allW n
  | k + 1 => cmnF r n c s (cmnI r n c s k)
theorem cmnF_mono (r : List (BitVec 64)) (n : Nat) (c s : BitVec 64) {x y : BitVec 64} (h : Sub x y) : Sub (cmnF r n c s x) (cmnF r n c s y) := by
  refine relBox_mono r fun k hk => ?_
  rw [bt_or, bt_or, bt_and s, bt_and s]
  have := h k hk
  simp only [Bool.or_eq_true, Bool.and_eq_true]
  rintro (h1 | ⟨h1, h2⟩)
  · exact .inl h1
  · exact .inr ⟨h1, this h2⟩
theorem cmnI_step (r : List (BitVec 64)) (n : Nat) (hr : r.length ≤ n) (c s : BitVec 64) : ∀ k, Sub (cmnI r n c s (k + 1)) (cmnI r n c s k)
  | 0 => by
    intro k hk h
    show bt (allW n) k = true
    rw [bt_allW]
    have h2 : bt (cmnF r n c s (allW n)) k = true := h
    unfold cmnF at h2
    rw [bt_relBox _ _ _ hk] at h2
    simp only [Bool.and_eq_true, decide_eq_true_eq] at h2 ⊢
    exact ⟨hk, by omega⟩
  | k + 1 => cmnF_mono r n c s (cmnI_step r n hr c s k)
/-- How many worlds a set has. -/
def pop (s : BitVec 64) : Nat := (List.range 64).countP (fun i => bt s i)
theorem countP_lt : ∀ (l : List Nat) (p q : Nat → Bool), (∀ i ∈ l, p i = true → q i = true) → (∃ i ∈ l, q i = true ∧ p i = false) → l.countP p < l.countP q
  | [], _, _, _, h => by obtain ⟨i, hi, _⟩ := h; simp at hi
  | a :: l, p, q, h, he => by
    rw [List.countP_cons, List.countP_cons]
    have hle : l.countP p ≤ l.countP q := List.countP_mono_left fun i hi => h i (by simp [hi])
    by_cases ha : q a = true ∧ p a = false
    · rw [ha.1, ha.2]; simp; omega
    · have hlt : l.countP p < l.countP q := countP_lt l p q (fun i hi => h i (by simp [hi])) (by
        obtain ⟨i, hi, h1⟩ := he
        rcases List.mem_cons.1 hi with rfl | hi
        · exact absurd h1 ha
        · exact ⟨i, hi, h1⟩)
      have := h a (by simp)
      cases hp : p a
      · simp; omega
      · rw [this hp]; simp; omega
theorem pop_lt {s t : BitVec 64} (h : Sub s t) (hn : s ≠ t) : pop s < pop t := by
  refine countP_lt _ _ _ (fun i hi => h i (by simpa using hi)) ?_
  apply Classical.byContradiction
  intro hc
  refine hn (h.antisymm fun k hk hb => ?_)
  apply Classical.byContradiction
  intro h2
  exact hc ⟨k, by simpa using hk, hb, by simpa using h2⟩
theorem pop_le (s : BitVec 64) : pop s ≤ 64 := by
  have := List.countP_le_length (p := fun i => bt s i) (l := List.range 64)
  simpa [pop] using this
/-- The number of worlds of the first n. -/
theorem pop_allW (n : Nat) : pop (allW n) ≤ n := by
  have h : ∀ m, (List.range m).countP (fun i => bt (allW n) i) ≤ n ∧ (List.range m).countP (fun i => bt (allW n) i) ≤ m := by
    intro m
    induction m with
    | zero => simp
    | succ m ih =>
      rw [List.range_succ, List.countP_append, List.countP_singleton, bt_allW]
      split
      · rename_i h; simp at h; omega
      · omega
  exact (h 64).1
theorem cmnI_stop (r : List (BitVec 64)) (n : Nat) (hr : r.length ≤ n) (c s : BitVec 64) : ∀ k, cmnI r n c s (k + 1) = cmnI r n c s k ∨ pop (cmnI r n c s (k + 1)) + (k + 1) ≤ n
  | 0 => by
    by_cases h : cmnI r n c s 1 = cmnI r n c s 0
    · exact .inl h
    · have := pop_lt (cmnI_step r n hr c s 0) h
      have h2 : pop (cmnI r n c s 0) ≤ n := pop_allW n
      exact .inr (by omega)
  | k + 1 => by
    rcases cmnI_stop r n hr c s k with h | h
    · exact .inl (by rw [cmnI, h]; exact h)
    · by_cases h2 : cmnI r n c s (k + 1 + 1) = cmnI r n c s (k + 1)
      · exact .inl h2
      · have := pop_lt (cmnI_step r n hr c s (k + 1)) h2
        exact .inr (by omega)
theorem cmnI_const (r : List (BitVec 64)) (n : Nat) (c s : BitVec 64) (k : Nat) (h : cmnI r n c s (k + 1) = cmnI r n c s k) : ∀ j, cmnI r n c s (k + j) = cmnI r n c s k
  | 0 => rfl
  | j + 1 => by
    have := cmnI_const r n c s k h j
    rw [show k + (j + 1) = (k + j) + 1 by omega, cmnI, this]; exact h
/-- After n steps nothing changes. -/
theorem cmnI_fix (r : List (BitVec 64)) (n : Nat) (hr : r.length ≤ n) (c s : BitVec 64) : cmnI r n c s (n + 1) = cmnI r n c s n := by
  rcases cmnI_stop r n hr c s n with h | h
  · exact h
  · omega
/-- Common knowledge. -/
def cmn (r : List (BitVec 64)) (n : Nat) (c s : BitVec 64) : BitVec 64 := cmnI r n c s n
theorem cmn_of (r : List (BitVec 64)) (n : Nat) (hr : r.length ≤ n) (c s : BitVec 64) (k : Nat) (h : cmnI r n c s (k + 1) = cmnI r n c s k) : cmnI r n c s k = cmn r n c s := by
  have h1 := cmnI_const r n c s k h (n)
  have h2 := cmnI_const r n c s n (cmnI_fix r n hr c s) k
  unfold cmn
  rw [← h1, ← h2, Nat.add_comm]

theorem gather_le (j : BitVec 64 → BitVec 64 → BitVec 64) (M : Mo) (g : Int) {N : Nat} (ok : MoOk M N) : (gather j M g).length ≤ N := by
  unfold gather isGroup
  split
  · cases hx : gat j M.rel g.toNat M.rel.length with
    | none => simp
    | some x => simp only [Option.getD_some]; rw [gat_len j M.rel g.toNat N ok.row _ (Nat.le_refl _) x hx]; exact Nat.le_refl _
  · simp
/-- The set of a node, given those of its operands; false if it is not static or does not fit. -/
def valN (M : Mo) (o i g : Int) (x y : BitVec 64) : BitVec 64 × Bool :=
  if o = 1 then (allW M.worlds.toNat, true)
  else if o = 2 then (0#64, true)
  else if o = 3 then if (M.val.length : Int) ≤ i then (0#64, false) else (nth M.val i.toNat, true)
  else if o = 4 then (allW M.worlds.toNat &&& ~~~ x, true)
  else if o = 5 then (x &&& y, true)
  else if o = 6 then (x ||| y, true)
  else if o = 7 then ((allW M.worlds.toNat &&& ~~~ x) ||| y, true)
  else if o = 8 then (allW M.worlds.toNat &&& ~~~ (x ^^^ y), true)
  else if o = 9 then if (M.rel.length : Int) ≤ i then (0#64, false) else (relBox (nth M.rel i.toNat) x, true)
  else if o = 10 then if (M.rel.length : Int) ≤ i then (0#64, false) else (relDia (nth M.rel i.toNat) x, true)
  else if o = 11 then if p2 M.rel.length ≤ g then (0#64, false) else (relBox (groupOf M g) x, true)
  else if o = 12 then if p2 M.rel.length ≤ g then (0#64, false) else (relBox (meetOf M g) x, true)
  else if o = 13 then if p2 M.rel.length ≤ g then (0#64, false) else (cmn (groupOf M g) M.worlds.toNat x y, true)
  else (0#64, false)
/-- The set of a tree. -/
def semT (M : Mo) : Fm → BitVec 64 × Bool
  | .leaf o i _ g => valN M o i g 0#64 0#64
  | .un o i _ g x => if (semT M x).2 then valN M o i g (semT M x).1 0#64 else (0#64, false)
  | .bin o i _ g x y => if (semT M x).2 && (semT M y).2 then valN M o i g (semT M x).1 (semT M y).1 else (0#64, false)
end Wt

/- Walks: checker.common, request. -/
namespace Wt
open Go Go.RowKit Go.Proofs Fm

def bvOf (v : Value) : Nat := match v with | .int _ z => z.toNat | _ => 0
theorem bvOf_un (s : BitVec 64) : bvOf (.int .u64 (un s)) = s.toNat := by simp [bvOf, un]
set_option maxHeartbeats 1000000 in
theorem common_any (a : Option Addr) (r : List (BitVec 64)) (cc : Nat) (n : Nat) (c s : BitVec 64) (w : World) (hr : RU w a r) (hn : r.length ≤ n) :
    Calls Tryz.prog 178 #[.slice a r.length cc, .int .u64 (un (allW n)), .int .u64 (un c), .int .u64 (un s)] w fun e w' => e = .returned (.int .u64 (un (cmn r n c s))) ∧ w = w' := by
  have hl := hr.len
  have HS := Lib.hid (cmn_of r n hn c s)
  have HM := Lib.hid (cmnI_step r n hn c s)
  go_enter Tryz.func178, Tryz.ntmps178
  go_wp2
  go_loop [9] (fun o => ∃ k : Nat, o = .int .u64 (un (cmnI r n c s k))) (fun o => bvOf o)
  case atStart => exact ⟨0, rfl⟩
  case round =>
    obtain ⟨k, rfl⟩ := hrel
    by_cases hq : cmnI r n c s (k + 1) = cmnI r n c s k
    · have hq2 : (cmnI r n c s (k + 1) == cmnI r n c s k) = true := by simp [hq]
      have HQ := Lib.hid hq
      clear hq
      go_wp2_with (go_at_call 174; refine (relBox_any _ _ _ ((allW n &&& ~~~ c) ||| (s &&& cmnI r n c s k)) _ hr).mono ?_; rintro e w1 ⟨rfl, rfl⟩; rw [show relBox r ((allW n &&& ~~~ c) ||| (s &&& cmnI r n c s k)) = cmnI r n c s (k + 1) from rfl])
      go_ret
      exact ⟨by rw [← HS.out k HQ.out]; rfl, rfl⟩
    · have hq2 : (cmnI r n c s (k + 1) == cmnI r n c s k) = false := by simp [hq]
      have hlt := sub_toNat_lt (HM.out k) hq
      have HQ := Lib.hid hlt
      clear hq hlt
      go_wp2_with (go_at_call 174; refine (relBox_any _ _ _ ((allW n &&& ~~~ c) ||| (s &&& cmnI r n c s k)) _ hr).mono ?_; rintro e w1 ⟨rfl, rfl⟩; rw [show relBox r ((allW n &&& ~~~ c) ||| (s &&& cmnI r n c s k)) = cmnI r n c s (k + 1) from rfl])
      go_round
      case rel => exact ⟨k + 1, rfl⟩
      case measure => rw [bvOf_un, bvOf_un]; exact HQ.out
/-- The error of a request. -/
def reqErr (M : Mo) (f : List Nd) : Int :=
  if moCheck M ≠ 0 then moCheck M else if fCheck f ≠ 0 then fCheck f else if 16 ≤ fFrags f then 10 else if fFits f M.rel.length M.val.length = false then 2 else 0
set_option maxRecDepth 100000 in
theorem andNot15 (k : Nat) (h : k < 512) : ((k &&& 4294967280 : Nat) = 0) ↔ k < 16 := by
  have : ∀ k : _root_.Fin 512, (((k.val &&& 4294967280 : Nat) = 0) ↔ k.val < 16) := by decide +kernel
  exact this ⟨k, h⟩
set_option maxHeartbeats 1000000 in
theorem request_any (M : Mo) (va ra : Option Addr) (vc rc : Nat) (fa : Option Addr) (fc : Nat) (f : List Nd) (w : World) (hm : RM w va ra M) (hf : RN w fa f) :
    Calls Tryz.prog 143 #[.agg #[.int .i64 M.worlds, .slice va M.val.length vc, .slice ra M.rel.length rc], .slice fa f.length fc] w fun e w' => e = .returned (.int .i64 (reqErr M f)) ∧ Ext w w' := by
  have hE0 := (Ext.refl w).alloc (.cells #[.int .i64 M.worlds, .slice va M.val.length vc, .slice ra M.rel.length rc] 28)
  have hm0 := hm.ext hE0
  obtain ⟨m0, m1, m2⟩ := MoBox.new w M.worlds M.val M.rel va vc ra rc 28
  have HE := Lib.hid hE0
  have HF := Lib.hid hf
  have hvl := hm.val.len
  have hrl := hm.rel.len
  clear hE0 hf hm
  by_cases h1 : moCheck M = 0
  · have H1 := Lib.hid h1
    by_cases h2 : fCheck f = 0
    · have H2 := Lib.hid h2
      have hfr := unionL_lt fragN fragN_lt (fCompact f)
      have hfr2 : fFrags f < 512 := hfr
      have han : bits .andNot .i64 (fFrags f : Int) 15 = ((fFrags f &&& 4294967280 : Nat) : Int) := andNot_nat (fFrags f) 15 (by omega) (by omega)
      by_cases h3 : 16 ≤ fFrags f
      · have hn : reqErr M f = 10 := by unfold reqErr; rw [if_neg (by simp [h1]), if_neg (by simp [h2]), if_pos h3]
        have HN := Lib.hid hn
        have hq : (((fFrags f &&& 4294967280 : Nat) : Int) != 0) = true := by
          have := andNot15 (fFrags f) hfr2
          simp; omega
        clear h1 h2 h3 hn hfr hfr2
        go_enter Tryz.func143, Tryz.ntmps143
        go_wp2_with (first | (go_at_call 71; refine (modelCheck_any M va ra vc rc _ hm0).mono ?_; rintro e w1 ⟨rfl, hE1⟩; rw [H1.out]; have q0 := hE1.cell m0; have q1 := hE1.cell m1; have q2 := hE1.cell m2; clear m0 m1 m2) | (go_at_call 89; refine (check_any _ _ f _ (HF.out.ext (HE.out.trans hE1))).mono ?_; rintro e w2 ⟨rfl, hE2⟩; rw [H2.out]; have p0 := hE2.cell q0; have p1 := hE2.cell q1; have p2 := hE2.cell q2; clear q0 q1 q2; have hA := (HE.out.trans hE1).trans hE2) | (go_at_call 90; refine (frags_any _ _ f _ (HF.out.ext hA)).mono ?_; rintro e w3 ⟨rfl, hE3⟩))
        go_ret
        exact ⟨by rw [HN.out]; rfl, hA.trans hE3⟩
      · have hq : (((fFrags f &&& 4294967280 : Nat) : Int) != 0) = false := by
          have := andNot15 (fFrags f) hfr2
          simp; omega
        cases h4 : fFits f M.rel.length M.val.length
        · have hn : reqErr M f = 2 := by unfold reqErr; rw [if_neg (by simp [h1]), if_neg (by simp [h2]), if_neg h3, if_pos h4]
          have HN := Lib.hid hn
          have H4 := Lib.hid h4
          clear h1 h2 h3 hn hfr hfr2 h4
          go_enter Tryz.func143, Tryz.ntmps143
          go_wp2_with (first | (go_at_call 71; refine (modelCheck_any M va ra vc rc _ hm0).mono ?_; rintro e w1 ⟨rfl, hE1⟩; rw [H1.out]; have q0 := hE1.cell m0; have q1 := hE1.cell m1; have q2 := hE1.cell m2; clear m0 m1 m2) | (go_at_call 89; refine (check_any _ _ f _ (HF.out.ext (HE.out.trans hE1))).mono ?_; rintro e w2 ⟨rfl, hE2⟩; rw [H2.out]; have p0 := hE2.cell q0; have p1 := hE2.cell q1; have p2 := hE2.cell q2; clear q0 q1 q2; have hA := (HE.out.trans hE1).trans hE2) | (go_at_call 90; refine (frags_any _ _ f _ (HF.out.ext hA)).mono ?_; rintro e w3 ⟨rfl, hE3⟩; have s0 := hE3.cell p0; have s1 := hE3.cell p1; have s2 := hE3.cell p2; clear p0 p1 p2; have hB := hA.trans hE3) | (go_at_call 91; refine (fits_any _ _ f _ _ _ (HF.out.ext hB)).mono ?_; rintro e w4 ⟨rfl, hE4⟩; rw [H4.out]))
          go_ret
          exact ⟨by rw [HN.out]; rfl, hB.trans hE4⟩
        · have hn : reqErr M f = 0 := by unfold reqErr; rw [if_neg (by simp [h1]), if_neg (by simp [h2]), if_neg h3, if_neg (by simp [h4])]
          have HN := Lib.hid hn
          have H4 := Lib.hid h4
          clear h1 h2 h3 hn hfr hfr2 h4
          go_enter Tryz.func143, Tryz.ntmps143
          go_wp2_with (first | (go_at_call 71; refine (modelCheck_any M va ra vc rc _ hm0).mono ?_; rintro e w1 ⟨rfl, hE1⟩; rw [H1.out]; have q0 := hE1.cell m0; have q1 := hE1.cell m1; have q2 := hE1.cell m2; clear m0 m1 m2) | (go_at_call 89; refine (check_any _ _ f _ (HF.out.ext (HE.out.trans hE1))).mono ?_; rintro e w2 ⟨rfl, hE2⟩; rw [H2.out]; have p0 := hE2.cell q0; have p1 := hE2.cell q1; have p2 := hE2.cell q2; clear q0 q1 q2; have hA := (HE.out.trans hE1).trans hE2) | (go_at_call 90; refine (frags_any _ _ f _ (HF.out.ext hA)).mono ?_; rintro e w3 ⟨rfl, hE3⟩; have s0 := hE3.cell p0; have s1 := hE3.cell p1; have s2 := hE3.cell p2; clear p0 p1 p2; have hB := hA.trans hE3) | (go_at_call 91; refine (fits_any _ _ f _ _ _ (HF.out.ext hB)).mono ?_; rintro e w4 ⟨rfl, hE4⟩; rw [H4.out]))
          go_ret
          exact ⟨by rw [HN.out]; rfl, hB.trans hE4⟩
    · have hn : reqErr M f = fCheck f := by unfold reqErr; rw [if_neg (by simp [h1]), if_pos h2]
      have HN := Lib.hid hn
      have hq2 : (fCheck f != 0) = true := by simp [h2]
      clear h1 h2 hn
      go_enter Tryz.func143, Tryz.ntmps143
      go_wp2_with (first | (go_at_call 71; refine (modelCheck_any M va ra vc rc _ hm0).mono ?_; rintro e w1 ⟨rfl, hE1⟩; rw [H1.out]; have q0 := hE1.cell m0; have q1 := hE1.cell m1; have q2 := hE1.cell m2; clear m0 m1 m2) | (go_at_call 89; refine (check_any _ _ f _ (HF.out.ext (HE.out.trans hE1))).mono ?_; rintro e w2 ⟨rfl, hE2⟩))
      go_ret
      exact ⟨by rw [HN.out]; rfl, (HE.out.trans hE1).trans hE2⟩
  · have hn : reqErr M f = moCheck M := by unfold reqErr; rw [if_pos h1]
    have HN := Lib.hid hn
    have hq2 : (moCheck M != 0) = true := by simp [h1]
    clear h1 hn
    go_enter Tryz.func143, Tryz.ntmps143
    go_wp2_with (go_at_call 71; refine (modelCheck_any M va ra vc rc _ hm0).mono ?_; rintro e w1 ⟨rfl, hE1⟩)
    go_ret
    exact ⟨by rw [HN.out]; rfl, HE.out.trans hE1⟩
end Wt
