/- Models: the plain functions that the walks name. -/
import Derived.Test.YtdnpgadkklgjeaaDoorBase
import Derived.Test.YtdnpgadkklgjeaaDoorProg
namespace Wt
open Go Go.RowKit
structure Mo where
  worlds : Int
  val : List (BitVec 64)
  rel : List (List (BitVec 64))
  deriving Inhabited, DecidableEq
/-- The first n worlds. -/
def allW (n : Nat) : BitVec 64 := if 64 ≤ n then 18446744073709551615#64 else (1#64 <<< n) - 1#64
def outOne (n : Nat) (s : BitVec 64) : Bool := (s &&& ~~~ allW n) != 0#64
def outL (n : Nat) (l : List (BitVec 64)) : Bool := l.any (outOne n)
/-- The error of a model. -/
def moCheck (M : Mo) : Int :=
  if M.worlds < 1 ∨ 64 < M.worlds then 2
  else if 4 < M.rel.length ∨ 8 < M.val.length then 8
  else if M.rel.any (fun r => (r.length : Int) != M.worlds) then 3
  else if outL M.worlds.toNat M.val || M.rel.any (outL M.worlds.toNat) then 2
  else 0
end Wt

/- Walks: model.all, outside, Check. -/
namespace Wt
open Go Go.RowKit Go.Proofs

set_option maxHeartbeats 1000000 in
theorem all_any (n : Nat) (w : World) :
    Calls Tryd.prog 30 #[.int .i64 (n : Int)] w fun e w' => e = .returned (.int .u64 (un (allW n))) ∧ w = w' := by
  by_cases h : 64 ≤ n
  · go_enter Tryd.func30, Tryd.ntmps30
    go_wp2
    go_ret
    exact ⟨by simp [allW, h, un_max], rfl⟩
  · go_enter Tryd.func30, Tryd.ntmps30
    go_wp2
    go_ret
    exact ⟨by simp [allW, h], rfl⟩
set_option maxHeartbeats 1000000 in
theorem indexFunc_u (F : Nat) (c : Value) (p : BitVec 64 → Bool) (a : Option Addr) (l : List (BitVec 64)) (cap : Nat) (w : World) (hr : RU w a l)
    (hF : ∀ args W, (callFunc F args).run Tryd.prog W = .ok (.enter F args) W)
    (hp : ∀ W s, Ext w W → Calls Tryd.prog F #[.int .u64 (un s), c] W fun e w' => e = .returned (.bool (p s)) ∧ Ext W w') :
    Calls Tryd.prog 61 #[.slice a l.length cap, .func (.func F) #[] #[c]] w fun e w' => (∃ i : Int, e = .returned (.int .i64 i) ∧ decide (0 ≤ i) = l.any p) ∧ Ext w w' := by
  have hl := hr.len
  have Hp := Lib.hid hp
  clear hp
  go_enter Tryd.func61, Tryd.ntmps61
  go_wp2
  go_loopw [8] (fun i wr => ∃ k : Nat, k ≤ l.length ∧ i = .int .i64 k ∧ Ext w wr ∧ Hid (∀ j, j < k → p (nth l j) = false)) (fun i _ => l.length - (intOf i).toNat)
  case atStart => exact ⟨0, Nat.zero_le _, rfl, Ext.refl _, fun _ h => absurd h (Nat.not_lt_zero _)⟩
  case round =>
    obtain ⟨k, hk, rfl, hE, hno⟩ := hrel
    by_cases hlt : k < l.length
    · obtain ⟨b, off, rfl, hc⟩ := (hr.ext hE).at_ k hlt
      go_wp2_with fail
      refine (Hp.out _ (nth l k) hE).mono ?_
      rintro e w1 ⟨rfl, hE1⟩
      cases hb : p (nth l k)
      all_goals have Hb := Lib.hid hb; clear hb
      · go_wp2
        go_roundw
        case rel => exact ⟨k + 1, hlt, by go_num, hE.trans hE1, lt_step hno Hb.out⟩
        case measure => simp [intOf]; omega
      · go_wp2
        go_ret
        exact ⟨⟨k, rfl, by rw [any_yes hlt Hb.out]; simp⟩, hE.trans hE1⟩
    · go_wp2
      go_ret
      exact ⟨⟨-1, rfl, by rw [any_no (fun j hj => hno j (by omega))]; rfl⟩, hE⟩
theorem cf_outside1 (args : Array Value) (W : World) : (callFunc 48 args).run Tryd.prog W = .ok (.enter 48 args) W := by
  simp [callFunc, Tryd.func48, Tryd.f48]
set_option maxHeartbeats 1000000 in
theorem containsFunc_u (F : Nat) (c : Value) (p : BitVec 64 → Bool) (a : Option Addr) (l : List (BitVec 64)) (cap : Nat) (w : World) (hr : RU w a l)
    (hF : ∀ args W, (callFunc F args).run Tryd.prog W = .ok (.enter F args) W)
    (hp : ∀ W s, Ext w W → Calls Tryd.prog F #[.int .u64 (un s), c] W fun e w' => e = .returned (.bool (p s)) ∧ Ext W w') :
    Calls Tryd.prog 47 #[.slice a l.length cap, .func (.func F) #[] #[c]] w fun e w' => e = .returned (.bool (l.any p)) ∧ Ext w w' := by
  have Hi := Lib.hid (indexFunc_u F c p a l cap w hr hF hp)
  clear hF hp
  go_enter Tryd.func47, Tryd.ntmps47
  go_wp2_with (go_at_call 61; refine (Hi.out).mono ?_; rintro e w1 ⟨⟨i, rfl, hi⟩, hE⟩; have HI := Lib.hid hi; clear hi)
  go_ret
  exact ⟨by rw [← HI.out]; simp, hE⟩
set_option maxHeartbeats 1000000 in
theorem outside1_any (n : Nat) (s : BitVec 64) (p : Addr) (w : World) (hp : w.cell? p = some (.int .i64 (n : Int))) :
    Calls Tryd.prog 48 #[.int .u64 (un s), .pointer (some p)] w fun e w' => e = .returned (.bool (outOne n s)) ∧ w = w' := by
  go_enter Tryd.func48, Tryd.ntmps48
  go_wp2_with (go_at_call 30; refine (all_any _ _).mono ?_; rintro e w1 ⟨rfl, rfl⟩)
  go_ret
  exact ⟨rfl, rfl⟩
set_option maxHeartbeats 1000000 in
theorem outside_any (n : Nat) (a : Option Addr) (l : List (BitVec 64)) (cap : Nat) (w : World) (hr : RU w a l) :
    Calls Tryd.prog 36 #[.slice a l.length cap, .int .i64 (n : Int)] w fun e w' => e = .returned (.bool (outL n l)) ∧ Ext w w' := by
  have Hc := Lib.hid (containsFunc_u 48 (.pointer (some ⟨w.heap.size, 0, none⟩)) (outOne n) a l cap (w.alloc (.cells #[.int .i64 (n : Int)] 3)) (hr.ext ((Ext.refl _).alloc _)) cf_outside1
    (fun W s hE => (outside1_any n s _ W (hE.cell (by simp))).mono fun e w' ⟨h1, h2⟩ => ⟨h1, h2 ▸ Ext.refl _⟩))
  go_enter Tryd.func36, Tryd.ntmps36
  go_wp2_with (go_at_call 47; refine (Hc.out).mono ?_; rintro e w1 ⟨rfl, hE⟩)
  go_ret
  exact ⟨rfl, ((Ext.refl w).alloc _).trans hE⟩
set_option maxHeartbeats 1000000 in
theorem modelCheck1_any (n : Nat) (a : Option Addr) (l : List (BitVec 64)) (cap : Nat) (b o : Nat) (w : World) (hp : w.cell? ⟨b, o, none⟩ = some (.int .i64 (n : Int))) (hr : RU w a l) :
    Calls Tryd.prog 38 #[.slice a l.length cap, .pointer (some ⟨b, o, none⟩)] w fun e w' => e = .returned (.bool (outL n l)) ∧ Ext w w' := by
  go_enter Tryd.func38, Tryd.ntmps38
  go_wp2_with (go_at_call 36; refine (outside_any _ _ _ _ _ hr).mono ?_; rintro e w1 ⟨rfl, hE⟩)
  go_ret
  exact ⟨rfl, hE⟩
theorem cf_modelCheck1 (args : Array Value) (W : World) : (callFunc 38 args).run Tryd.prog W = .ok (.enter 38 args) W := by
  simp [callFunc, Tryd.func38, Tryd.f38]
set_option maxHeartbeats 1000000 in
theorem indexFunc_r (F : Nat) (c : Value) (p : List (BitVec 64) → Bool) (a : Option Addr) (l : List (List (BitVec 64))) (cap : Nat) (w : World) (hr : RR w a l)
    (hF : ∀ args W, (callFunc F args).run Tryd.prog W = .ok (.enter F args) W)
    (hp : ∀ W a s c', Ext w W → RU W a s → Calls Tryd.prog F #[.slice a s.length c', c] W fun e w' => e = .returned (.bool (p s)) ∧ Ext W w') :
    Calls Tryd.prog 49 #[.slice a l.length cap, .func (.func F) #[] #[c]] w fun e w' => (∃ i : Int, e = .returned (.int .i64 i) ∧ decide (0 ≤ i) = l.any p) ∧ Ext w w' := by
  have hl := hr.len
  have Hp := Lib.hid hp
  clear hp
  go_enter Tryd.func49, Tryd.ntmps49
  go_wp2
  go_loopw [8] (fun i wr => ∃ k : Nat, k ≤ l.length ∧ i = .int .i64 k ∧ Ext w wr ∧ Hid (∀ j, j < k → p (nth l j) = false)) (fun i _ => l.length - (intOf i).toNat)
  case atStart => exact ⟨0, Nat.zero_le _, rfl, Ext.refl _, fun _ h => absurd h (Nat.not_lt_zero _)⟩
  case round =>
    obtain ⟨k, hk, rfl, hE, hno⟩ := hrel
    by_cases hlt : k < l.length
    · obtain ⟨b, off, a', c', rfl, hc, hu⟩ := (hr.ext hE).at_ k hlt
      go_wp2_with fail
      refine (Hp.out _ _ _ _ hE hu).mono ?_
      rintro e w1 ⟨rfl, hE1⟩
      cases hb : p (nth l k)
      all_goals have Hb := Lib.hid hb; clear hb
      · go_wp2
        go_roundw
        case rel => exact ⟨k + 1, hlt, by go_num, hE.trans hE1, lt_step hno Hb.out⟩
        case measure => simp [intOf]; omega
      · go_wp2
        go_ret
        exact ⟨⟨k, rfl, by rw [any_yes hlt Hb.out]; simp⟩, hE.trans hE1⟩
    · go_wp2
      go_ret
      exact ⟨⟨-1, rfl, by rw [any_no (fun j hj => hno j (by omega))]; rfl⟩, hE⟩
set_option maxHeartbeats 1000000 in
theorem containsFunc_r (F : Nat) (c : Value) (p : List (BitVec 64) → Bool) (a : Option Addr) (l : List (List (BitVec 64))) (cap : Nat) (w : World) (hr : RR w a l)
    (hF : ∀ args W, (callFunc F args).run Tryd.prog W = .ok (.enter F args) W)
    (hp : ∀ W a s c', Ext w W → RU W a s → Calls Tryd.prog F #[.slice a s.length c', c] W fun e w' => e = .returned (.bool (p s)) ∧ Ext W w') :
    Calls Tryd.prog 37 #[.slice a l.length cap, .func (.func F) #[] #[c]] w fun e w' => e = .returned (.bool (l.any p)) ∧ Ext w w' := by
  have Hi := Lib.hid (indexFunc_r F c p a l cap w hr hF hp)
  clear hF hp
  go_enter Tryd.func37, Tryd.ntmps37
  go_wp2_with (go_at_call 49; refine (Hi.out).mono ?_; rintro e w1 ⟨⟨i, rfl, hi⟩, hE⟩; have HI := Lib.hid hi; clear hi)
  go_ret
  exact ⟨by rw [← HI.out]; simp, hE⟩
end Wt

/- Walks: model.Check. -/
namespace Wt
open Go Go.RowKit Go.Proofs

/-- A model in memory: the value that is passed about. -/
structure RM (w : World) (va : Option Addr) (ra : Option Addr) (M : Mo) : Prop where
  val : RU w va M.val
  rel : RR w ra M.rel
theorem RM.ext {w w' : World} (h : Ext w w') {va ra : Option Addr} {M : Mo} (r : RM w va ra M) : RM w' va ra M := ⟨r.val.ext h, r.rel.ext h⟩
/-- Three cells hold a model. -/
structure MoBox (w : World) (b : Nat) (M : Mo) (va : Option Addr) (vc : Nat) (ra : Option Addr) (rc : Nat) : Prop where
  c0 : w.cell? ⟨b, 0, none⟩ = some (.int .i64 M.worlds)
  c1 : w.cell? ⟨b, 1, none⟩ = some (.slice va M.val.length vc)
  c2 : w.cell? ⟨b, 2, none⟩ = some (.slice ra M.rel.length rc)
theorem MoBox.ext {w w' : World} (h : Ext w w') {b : Nat} {M : Mo} {va : Option Addr} {vc : Nat} {ra : Option Addr} {rc : Nat} (r : MoBox w b M va vc ra rc) : MoBox w' b M va vc ra rc :=
  ⟨h.cell r.c0, h.cell r.c1, h.cell r.c2⟩
theorem MoBox.new (w : World) (W : Int) (V : List (BitVec 64)) (R : List (List (BitVec 64))) (va : Option Addr) (vc : Nat) (ra : Option Addr) (rc : Nat) (T : Nat) :
    MoBox (w.alloc (.cells #[.int .i64 W, .slice va V.length vc, .slice ra R.length rc] T)) w.heap.size ⟨W, V, R⟩ va vc ra rc :=
  ⟨by simp, by simp, by simp⟩
/-- The cells of a model. -/
def moV (M : Mo) (va : Option Addr) (vc : Nat) (ra : Option Addr) (rc : Nat) : Value :=
  .agg #[.int .i64 M.worlds, .slice va M.val.length vc, .slice ra M.rel.length rc]

set_option maxHeartbeats 2000000 in
theorem modelCheck_any (M : Mo) (va ra : Option Addr) (vc rc : Nat) (w : World) (hr : RM w va ra M) :
    Calls Tryd.prog 28 #[.agg #[.int .i64 M.worlds, .slice va M.val.length vc, .slice ra M.rel.length rc]] w fun e w' =>
      e = .returned (.int .i64 (moCheck M)) ∧ Ext w w' := by
  obtain ⟨W, V, R⟩ := M
  have hv := hr.val
  have hR := hr.rel
  have hvl := hv.len
  have hrl := hR.len
  clear hr
  dsimp only at *
  by_cases h1 : W < 1
  · have hn : moCheck ⟨W, V, R⟩ = 2 := by unfold moCheck; rw [if_pos (by simp [h1])]
    have HN := Lib.hid hn
    clear hn
    go_enter Tryd.func28, Tryd.ntmps28
    go_wp2
    go_ret
    exact ⟨by rw [HN.out]; rfl, (Ext.refl w).alloc _⟩
  · by_cases h2 : 64 < W
    · have hn : moCheck ⟨W, V, R⟩ = 2 := by unfold moCheck; rw [if_pos (by simp [h2])]
      have HN := Lib.hid hn
      clear hn
      go_enter Tryd.func28, Tryd.ntmps28
      go_wp2
      go_ret
      exact ⟨by rw [HN.out]; rfl, (Ext.refl w).alloc _⟩
    · obtain ⟨n, rfl⟩ := Int.eq_ofNat_of_zero_le (show 0 ≤ W by omega)
      by_cases h3 : 4 < R.length
      · have hn : moCheck ⟨n, V, R⟩ = 8 := by unfold moCheck; rw [if_neg (by simp; omega), if_pos (by simp [h3])]
        have HN := Lib.hid hn
        clear hn
        go_enter Tryd.func28, Tryd.ntmps28
        go_wp2
        go_ret
        exact ⟨by rw [HN.out]; rfl, (Ext.refl w).alloc _⟩
      · by_cases h4 : 8 < V.length
        · have hn : moCheck ⟨n, V, R⟩ = 8 := by unfold moCheck; rw [if_neg (by simp; omega), if_pos (by simp [h4])]
          have HN := Lib.hid hn
          clear hn
          go_enter Tryd.func28, Tryd.ntmps28
          go_wp2
          go_ret
          exact ⟨by rw [HN.out]; rfl, (Ext.refl w).alloc _⟩
        · have hn : moCheck ⟨n, V, R⟩ = if R.any (fun r => (r.length : Int) != n) then 3 else if outL n V || R.any (outL n) then 2 else 0 := by
            unfold moCheck; rw [if_neg (by simp; omega), if_neg (by simp; omega)]; simp
          have HN := Lib.hid hn
          clear hn
          go_enter Tryd.func28, Tryd.ntmps28
          go_wp2
          go_loop [26] (fun i => ∃ k : Nat, k ≤ R.length ∧ i = .int .i64 k ∧ Hid (∀ j, j < k → (((nth R j).length : Int) != n) = false)) (fun i => R.length - (intOf i).toNat)
          case atStart => exact ⟨0, Nat.zero_le _, rfl, fun _ h => absurd h (Nat.not_lt_zero _)⟩
          case round =>
            obtain ⟨k, hk, rfl, hno⟩ := hrel
            by_cases hlt : k < R.length
            · obtain ⟨b, off, a', c', rfl, hb, hc, hu⟩ := hR.get hlt
              have hul := hu.len
              by_cases hq : (((nth R k).length : Int) != n) = true
              · go_wp2
                go_ret
                refine ⟨?_, (Ext.refl w).alloc _⟩
                rw [HN.out, any_yes hlt hq]; rfl
              · have hq' : (((nth R k).length : Int) != n) = false := by simpa using hq
                clear hq
                go_wp2
                go_round
                case rel => exact ⟨k + 1, hlt, by go_num, lt_step hno hq'⟩
                case measure => simp [intOf]; omega
            · have hno2 : R.any (fun r => (r.length : Int) != n) = false := any_no (fun j hj => hno j (by omega))
              have HN2 := Lib.hid hno2
              clear hno2 hno
              have hE0 := (Ext.refl w).alloc (.cells #[.int .i64 (n : Int), .slice va V.length vc, .slice ra R.length rc] 25)
              have hv0 := hv.ext hE0
              have hR0 := hR.ext hE0
              have HE0 := Lib.hid hE0
              clear hE0
              go_wp2_with (first | (go_at_call 36; refine (outside_any _ _ _ _ _ hv0).mono ?_; rintro e w1 ⟨rfl, hE⟩; obtain ⟨hc1, hf1, hs1⟩ := hE.rules; cases hq : outL n V) | (go_at_call 37; refine (containsFunc_r 38 _ (outL n) _ _ _ _ (hR0.ext hE) cf_modelCheck1 (fun W a s c' hW hs => modelCheck1_any n a s c' _ _ W (hW.cell (by simp [*])) hs)).mono ?_; rintro e w2 ⟨rfl, hE2⟩))
              all_goals
                go_ret
                first
                  | exact ⟨by rw [HN.out, HN2.out]; simp [*], (HE0.out.trans hE).trans hE2⟩
                  | exact ⟨by rw [HN.out, HN2.out]; simp [*], HE0.out.trans hE⟩
end Wt
