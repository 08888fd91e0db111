/- Walks: wittingref13.group, Group, Meet. -/
import Derived.Test.YtdnpgadkklgjeaaSemB
import Derived.Test.YtdnpgadkklgjeaaMoC
import Derived.Test.YtdnpgadkklgjeaaRfG
import Derived.Deep.AppendLies
import Derived.Deep.RegionHeld3
namespace Wt
open Go Go.RowKit Go.Maps Go.Proofs Fm

/-- A row of a group's relation, after k agents. -/
def gRow (j : BitVec 64 → BitVec 64 → BitVec 64) (z : BitVec 64) (R : List (List (BitVec 64))) (G w : Nat) : Nat → BitVec 64
  | 0 => z
  | q + 1 => if G.testBit q then j (gRow j z R G w q) (nth (nth R q) w) else gRow j z R G w q
theorem gRow_yes {j : BitVec 64 → BitVec 64 → BitVec 64} {z : BitVec 64} {R : List (List (BitVec 64))} {G w q : Nat} (h : G.testBit q = true) : gRow j z R G w (q + 1) = j (gRow j z R G w q) (nth (nth R q) w) := if_pos h
theorem gRow_no {j : BitVec 64 → BitVec 64 → BitVec 64} {z : BitVec 64} {R : List (List (BitVec 64))} {G w q : Nat} (h : G.testBit q = false) : gRow j z R G w (q + 1) = gRow j z R G w q := if_neg (by simp [h])
def jOf (meet : Bool) : BitVec 64 → BitVec 64 → BitVec 64 := if meet then (fun x y => x &&& y) else (fun x y => x ||| y)
def zOf (meet : Bool) (N : Nat) : BitVec 64 := if meet then allW N else 0#64
def gRows (meet : Bool) (R : List (List (BitVec 64))) (G N : Nat) : List (BitVec 64) := (List.range N).map fun w => gRow (jOf meet) (zOf meet N) R G w R.length
/-- What a round keeps. -/
structure GS (w0 : World) (f : Nat → BitVec 64) (k : Nat) (v : Value) (wr : World) : Prop where
  e : Ext w0 wr
  own : wr.ownsRow w0.heap.size 29 1 v k (((List.range k).map f).map uv)
def GSE (w0 : World) (f : Nat → BitVec 64) (k : Nat) (v : Value) (wr : World) : Prop := GS w0 f k v wr
theorem GS.ext' {w0 : World} {f : Nat → BitVec 64} {k : Nat} {v : Value} {wr w' : World} (h : GS w0 f k v wr) (e : Ext wr w') : GS w0 f k v w' :=
  ⟨h.e.trans e, h.own.kept (row := none) ⟨e.os, e.tape, e.output, e.size, fun k hk _ => e.block k hk⟩ (by cases v.ownBlock <;> simp)⟩
theorem GS.push {w0 : World} {f : Nat → BitVec 64} {k : Nat} {v v' : Value} {wr W1 : World} (h : GS w0 f k v wr) (ho : W1.ownsRow w0.heap.size 29 1 v' (k + 1) (((List.range k).map f).map uv ++ [uv (f k)])) (g : wr.grownBy W1 v.ownBlock) : GS w0 f (k + 1) v' W1 := by
  refine ⟨ext_of_grown h.e g (fun b hb => (h.own.lt b hb).1), ?_⟩
  rw [List.range_succ, List.map_append, List.map_append]
  exact ho
theorem GS.done {w0 : World} {f : Nat → BitVec 64} {k : Nat} {v : Value} {wr : World} (h : GS w0 f k v wr) (hk : k ≤ 1000) : ∃ a c, v = .slice a k c ∧ RU wr a ((List.range k).map f) := by
  have ho : OU wr w0.heap.size v ((List.range k).map f) := by
    have := h.own
    unfold OU
    simpa using this
  obtain ⟨a, c, hv, hu⟩ := RU_of_OU ho (by simp; omega)
  exact ⟨a, c, by simpa using hv, hu⟩
set_option maxRecDepth 20000 in
set_option maxHeartbeats 4000000 in
theorem r13group_false (M : Mo) (va ra : Option Addr) (vc rc : Nat) (G N : Nat) (w : World) (hr : RM w va ra M) (ok : MoOk M N) (h1 : 1 ≤ G) (h2 : (G : Int) < p2 M.rel.length) :
    Calls Try.prog 91 #[.agg #[.int .i64 M.worlds, .slice va M.val.length vc, .slice ra M.rel.length rc], .int .i64 (G : Int), .bool false] w fun e w' => RetU (gRows false M.rel G N) e w w' := by
  obtain ⟨W, V, R⟩ := M
  have hW := ok.worlds
  have hrl := ok.rel
  have hvl := ok.val
  have hrow := ok.row
  have hNm := ok.most
  have hck := ok.check
  dsimp only at hW hrl hvl hrow h2 ⊢
  subst hW
  have hG : G < 16 := by
    unfold p2 at h2
    have : 2 ^ R.length ≤ 2 ^ 4 := Nat.pow_le_pow_right (by omega) hrl
    omega
  have hE0 : Ext w (w.alloc (.cells #[.int .i64 (N : Int), .slice va V.length vc, .slice ra R.length rc] 25)) := (Ext.refl w).alloc _
  have hm0 := hr.ext hE0
  have hbx := MoBox.new w (N : Int) V R va vc ra rc 25
  have HCK := Lib.hid (r13Check_any ⟨N, V, R⟩ va ra vc rc _ hm0)
  have HC0 := Lib.hid hck
  have HRel := Lib.hid hr.rel
  have HBX := Lib.hid hbx
  have HE0 := Lib.hid hE0
  have HROW := Lib.hid hrow
  obtain ⟨m0, m1, m2⟩ := hbx
  obtain ⟨i0, hi1, hz0, hz1, hz2⟩ := info_parts u64_info
  have hg1 : decide ((G : Int) < 1) = false := by simp; omega
  have hg2 : decide (p2 R.length ≤ (G : Int)) = false := by simp; omega
  have hg3 : R.length < 63 := by omega
  clear hr ok hm0 hck hE0 hrow
  go_enter Try.func91, Try.ntmps91
  go_wp2_with (go_at_call 21; refine HCK.out.mono ?_; rintro e w1 ⟨rfl, hE1⟩; rw [HC0.out]; obtain ⟨q0, q1, q2⟩ := HBX.out.ext hE1)
  have HE1 := Lib.hid hE1
  have hwb : w.heap.size < w1.heap.size := by have := hE1.size; simp at this; omega
  have HR1 : Hid (RR w1 ra R) := HRel.out.ext (HE0.out.trans hE1)
  clear m0 m1 m2
  go_loopw [7, 8] (fun v i wr => ∃ k : Nat, k ≤ N ∧ i = .int .i64 k ∧ GSE w1 (fun x => gRow (jOf false) (zOf false N) R G x R.length) k v wr) (fun _ i _ => N - (intOf i).toNat)
  case atStart => exact ⟨0, Nat.zero_le _, rfl, Ext.refl _, World.ownsRow_nil _ _ _ _⟩
  case round =>
    obtain ⟨k, hk, rfl, hgs⟩ := hrel
    have hgs : GS w1 _ k u7 wr := hgs
    have HGS := Lib.hid hgs
    obtain ⟨p0, p1, p2'⟩ := (HBX.out.ext hE1).ext hgs.e
    by_cases hlt : k < N
    · clear hgs
      go_wp2
      go_loop [9, 10] (fun r i => ∃ q : Nat, q ≤ R.length ∧ i = .int .i64 q ∧ r = .int .u64 (un (gRow (jOf false) (zOf false N) R G k q))) (fun _ i => R.length - (intOf i).toNat)
      case atStart => exact ⟨0, Nat.zero_le _, rfl, rfl⟩
      case round =>
        obtain ⟨q, hq, rfl, rfl⟩ := hrel
        by_cases hql : q < R.length
        · obtain ⟨b, off, a', c', rfl, hb, hc, hu⟩ := (HR1.out.ext HGS.out.e).get hql
          have hrq : (nth R q).length = N := HROW.out _ (by rw [nth_eq R q hql]; exact List.getElem_mem _)
          obtain ⟨b2, off2, rfl, hb2, hc2⟩ := hu.get (k := k) (by omega)
          rw [hrq] at hc
          cases hbit : G.testBit q
          · have HP := Lib.hid (gRow_no (j := jOf false) (z := zOf false N) (R := R) (w := k) hbit)
            have hbb := bit_of G q
            rw [hbit] at hbb
            clear hu
            go_wp2
            go_round
            case rel => exact ⟨q + 1, hql, by go_num, by rw [HP.out]⟩
            case measure => simp [intOf]; omega
          · have HP := Lib.hid (gRow_yes (j := jOf false) (z := zOf false N) (R := R) (w := k) hbit)
            have hbb := bit_of G q
            rw [hbit] at hbb
            clear hu
            go_wp2
            go_round
            case rel => exact ⟨q + 1, hql, by go_num, by rw [HP.out]; rfl⟩
            case measure => simp [intOf]; omega
        · obtain rfl : q = R.length := by omega
          have HO : Hid (∀ o, (wr.alloc o).ownsRow w1.heap.size 29 1 u7 k (((List.range k).map (fun x => gRow (jOf false) (zOf false N) R G x R.length)).map uv)) := fun o => (HGS.out.ext' ((Ext.refl wr).alloc o)).own
          have HPA : Hid (∀ o, GS w1 (fun x => gRow (jOf false) (zOf false N) R G x R.length) k u7 (wr.alloc o)) := fun o => HGS.out.ext' ((Ext.refl wr).alloc o)
          have HONE : Hid (∀ u ∈ [Value.int .u64 (un (gRow (jOf false) (zOf false N) R G k R.length))], u.oneCell' = true) := fun u hu => by
            rcases List.mem_singleton.1 hu with rfl
            rfl
          have hsz1 : w1.heap.size ≤ wr.heap.size := HGS.out.e.size
          go_wp2_with (at_builtin; refine wpList_append_lies _ rfl _ _ 22 rfl w1.heap.size 29 i0 _ 1 8 Try.underlying22 hi1 hz0 hz1 hz2 rfl (by decide) u7 k _ rfl (HO.out _) ⟨wr.heap.size, 0, none⟩ 1 1 [.int .u64 (un (gRow (jOf false) (zOf false N) R G k R.length))] rfl rfl (cell_one_new _ _ _) HONE.out (by decide) (by unfold maxLen; omega) (by omega) (Nat.le_trans hsz1 (by simp)) (wr.heap.size + 1) (by simp) ?_; intro gx cap W1 hown hgrow hat hlt2; have hpush := (HPA.out _).push hown hgrow; have HPU := Lib.hid hpush; clear hpush hown hgrow hat)
          go_roundw
          case rel => exact ⟨k + 1, hlt, by go_num, HPU.out⟩
          case measure => simp [intOf]; omega
    · obtain rfl : k = N := by omega
      obtain ⟨a, c, rfl, hu⟩ := hgs.done (by omega)
      have HU := Lib.hid hu
      clear hgs hu
      go_wp2
      go_ret
      have hl : (gRows false R G k).length = k := by simp [gRows]
      refine ⟨a, c, by rw [hl]; rfl, HU.out, (HE0.out.trans HE1.out).trans HGS.out.e⟩
set_option maxRecDepth 20000 in
set_option maxHeartbeats 4000000 in
theorem r13group_true (M : Mo) (va ra : Option Addr) (vc rc : Nat) (G N : Nat) (w : World) (hr : RM w va ra M) (ok : MoOk M N) (h1 : 1 ≤ G) (h2 : (G : Int) < p2 M.rel.length) :
    Calls Try.prog 91 #[.agg #[.int .i64 M.worlds, .slice va M.val.length vc, .slice ra M.rel.length rc], .int .i64 (G : Int), .bool true] w fun e w' => RetU (gRows true M.rel G N) e w w' := by
  obtain ⟨W, V, R⟩ := M
  have hW := ok.worlds
  have hrl := ok.rel
  have hvl := ok.val
  have hrow := ok.row
  have hNm := ok.most
  have hck := ok.check
  dsimp only at hW hrl hvl hrow h2 ⊢
  subst hW
  have hG : G < 16 := by
    unfold p2 at h2
    have : 2 ^ R.length ≤ 2 ^ 4 := Nat.pow_le_pow_right (by omega) hrl
    omega
  have hE0 : Ext w (w.alloc (.cells #[.int .i64 (N : Int), .slice va V.length vc, .slice ra R.length rc] 25)) := (Ext.refl w).alloc _
  have hm0 := hr.ext hE0
  have hbx := MoBox.new w (N : Int) V R va vc ra rc 25
  have HCK := Lib.hid (r13Check_any ⟨N, V, R⟩ va ra vc rc _ hm0)
  have HC0 := Lib.hid hck
  have HRel := Lib.hid hr.rel
  have HBX := Lib.hid hbx
  have HE0 := Lib.hid hE0
  have HROW := Lib.hid hrow
  obtain ⟨m0, m1, m2⟩ := hbx
  obtain ⟨i0, hi1, hz0, hz1, hz2⟩ := info_parts u64_info
  have hg1 : decide ((G : Int) < 1) = false := by simp; omega
  have hg2 : decide (p2 R.length ≤ (G : Int)) = false := by simp; omega
  have hg3 : R.length < 63 := by omega
  clear hr ok hm0 hck hE0 hrow
  go_enter Try.func91, Try.ntmps91
  go_wp2_with (go_at_call 21; refine HCK.out.mono ?_; rintro e w1 ⟨rfl, hE1⟩; rw [HC0.out]; obtain ⟨q0, q1, q2⟩ := HBX.out.ext hE1)
  have HE1 := Lib.hid hE1
  have hwb : w.heap.size < w1.heap.size := by have := hE1.size; simp at this; omega
  have HR1 : Hid (RR w1 ra R) := HRel.out.ext (HE0.out.trans hE1)
  clear m0 m1 m2
  go_loopw [7, 8] (fun v i wr => ∃ k : Nat, k ≤ N ∧ i = .int .i64 k ∧ GSE w1 (fun x => gRow (jOf true) (zOf true N) R G x R.length) k v wr) (fun _ i _ => N - (intOf i).toNat)
  case atStart => exact ⟨0, Nat.zero_le _, rfl, Ext.refl _, World.ownsRow_nil _ _ _ _⟩
  case round =>
    obtain ⟨k, hk, rfl, hgs⟩ := hrel
    have hgs : GS w1 _ k u7 wr := hgs
    have HGS := Lib.hid hgs
    obtain ⟨p0, p1, p2'⟩ := (HBX.out.ext hE1).ext hgs.e
    by_cases hlt : k < N
    · clear hgs
      go_wp2_with (go_at_call 28; refine (r13All_any N _).mono ?_; rintro _ _ ⟨rfl, rfl⟩)
      go_loop [9, 10] (fun r i => ∃ q : Nat, q ≤ R.length ∧ i = .int .i64 q ∧ r = .int .u64 (un (gRow (jOf true) (zOf true N) R G k q))) (fun _ i => R.length - (intOf i).toNat)
      case atStart => exact ⟨0, Nat.zero_le _, rfl, rfl⟩
      case round =>
        obtain ⟨q, hq, rfl, rfl⟩ := hrel
        by_cases hql : q < R.length
        · obtain ⟨b, off, a', c', rfl, hb, hc, hu⟩ := (HR1.out.ext HGS.out.e).get hql
          have hrq : (nth R q).length = N := HROW.out _ (by rw [nth_eq R q hql]; exact List.getElem_mem _)
          obtain ⟨b2, off2, rfl, hb2, hc2⟩ := hu.get (k := k) (by omega)
          rw [hrq] at hc
          cases hbit : G.testBit q
          · have HP := Lib.hid (gRow_no (j := jOf true) (z := zOf true N) (R := R) (w := k) hbit)
            have hbb := bit_of G q
            rw [hbit] at hbb
            clear hu
            go_wp2
            go_round
            case rel => exact ⟨q + 1, hql, by go_num, by rw [HP.out]⟩
            case measure => simp [intOf]; omega
          · have HP := Lib.hid (gRow_yes (j := jOf true) (z := zOf true N) (R := R) (w := k) hbit)
            have hbb := bit_of G q
            rw [hbit] at hbb
            clear hu
            go_wp2
            go_round
            case rel => exact ⟨q + 1, hql, by go_num, by rw [HP.out]; rfl⟩
            case measure => simp [intOf]; omega
        · obtain rfl : q = R.length := by omega
          have HO : Hid (∀ o, (wr.alloc o).ownsRow w1.heap.size 29 1 u7 k (((List.range k).map (fun x => gRow (jOf true) (zOf true N) R G x R.length)).map uv)) := fun o => (HGS.out.ext' ((Ext.refl wr).alloc o)).own
          have HPA : Hid (∀ o, GS w1 (fun x => gRow (jOf true) (zOf true N) R G x R.length) k u7 (wr.alloc o)) := fun o => HGS.out.ext' ((Ext.refl wr).alloc o)
          have HONE : Hid (∀ u ∈ [Value.int .u64 (un (gRow (jOf true) (zOf true N) R G k R.length))], u.oneCell' = true) := fun u hu => by
            rcases List.mem_singleton.1 hu with rfl
            rfl
          have hsz1 : w1.heap.size ≤ wr.heap.size := HGS.out.e.size
          go_wp2_with (at_builtin; refine wpList_append_lies _ rfl _ _ 22 rfl w1.heap.size 29 i0 _ 1 8 Try.underlying22 hi1 hz0 hz1 hz2 rfl (by decide) u7 k _ rfl (HO.out _) ⟨wr.heap.size, 0, none⟩ 1 1 [.int .u64 (un (gRow (jOf true) (zOf true N) R G k R.length))] rfl rfl (cell_one_new _ _ _) HONE.out (by decide) (by unfold maxLen; omega) (by omega) (Nat.le_trans hsz1 (by simp)) (wr.heap.size + 1) (by simp) ?_; intro gx cap W1 hown hgrow hat hlt2; have hpush := (HPA.out _).push hown hgrow; have HPU := Lib.hid hpush; clear hpush hown hgrow hat)
          go_roundw
          case rel => exact ⟨k + 1, hlt, by go_num, HPU.out⟩
          case measure => simp [intOf]; omega
    · obtain rfl : k = N := by omega
      obtain ⟨a, c, rfl, hu⟩ := hgs.done (by omega)
      have HU := Lib.hid hu
      clear hgs hu
      go_wp2
      go_ret
      have hl : (gRows true R G k).length = k := by simp [gRows]
      refine ⟨a, c, by rw [hl]; rfl, HU.out, (HE0.out.trans HE1.out).trans HGS.out.e⟩
theorem r13group_any (meet : Bool) (M : Mo) (va ra : Option Addr) (vc rc : Nat) (G N : Nat) (w : World) (hr : RM w va ra M) (ok : MoOk M N) (h1 : 1 ≤ G) (h2 : (G : Int) < p2 M.rel.length) :
    Calls Try.prog 91 #[.agg #[.int .i64 M.worlds, .slice va M.val.length vc, .slice ra M.rel.length rc], .int .i64 (G : Int), .bool meet] w fun e w' => RetU (gRows meet M.rel G N) e w w' := by
  cases meet
  · exact r13group_false M va ra vc rc G N w hr ok h1 h2
  · exact r13group_true M va ra vc rc G N w hr ok h1 h2
theorem zip_nth (j : BitVec 64 → BitVec 64 → BitVec 64) (x y : List (BitVec 64)) (k : Nat) (hx : k < x.length) (hy : k < y.length) : nth (List.zipWith j x y) k = j (nth x k) (nth y k) := by
  rw [nth_eq _ _ (by simp; omega), nth_eq _ _ hx, nth_eq _ _ hy]
  simp
/-- The gathered relation, row by row. -/
theorem gat_row (j : BitVec 64 → BitVec 64 → BitVec 64) (z : BitVec 64) (R : List (List (BitVec 64))) (G n : Nat) (hrow : ∀ r ∈ R, r.length = n) (hz : ∀ q, q < R.length → ∀ w, w < n → j z (nth (nth R q) w) = nth (nth R q) w) :
    ∀ k, k ≤ R.length → ∀ w, w < n → (match gat j R G k with | none => gRow j z R G w k = z | some x => x.length = n ∧ nth x w = gRow j z R G w k)
  | 0, _, w, _ => rfl
  | k + 1, hk, w, hw => by
    have hrk : (nth R k).length = n := hrow _ (by rw [nth_eq R k (by omega)]; exact List.getElem_mem _)
    have ih := gat_row j z R G n hrow hz k (by omega) w hw
    cases hb : G.testBit k
    · have e : gat j R G (k + 1) = gat j R G k := if_neg (by simp [hb])
      rw [e, gRow_no hb]; exact ih
    · have e : gat j R G (k + 1) = (match gat j R G k with | none => some (nth R k) | some x => some (List.zipWith j x (nth R k))) := if_pos hb
      rw [e, gRow_yes hb]
      cases hg : gat j R G k with
      | none =>
        rw [hg] at ih
        have ih' : gRow j z R G w k = z := ih
        show (nth R k).length = n ∧ _
        rw [ih']
        exact ⟨hrk, (hz k (by omega) w hw).symm⟩
      | some x =>
        rw [hg] at ih
        obtain ⟨h1, h2⟩ : x.length = n ∧ nth x w = gRow j z R G w k := ih
        show (List.zipWith j x (nth R k)).length = n ∧ _
        exact ⟨by simp; omega, by rw [zip_nth j x _ w (by omega) (by omega), h2]⟩
theorem gat_some (j : BitVec 64 → BitVec 64 → BitVec 64) (R : List (List (BitVec 64))) (G : Nat) : ∀ k, gat j R G k = none → ∀ q, q < k → G.testBit q = false
  | 0, _, q, h => absurd h (Nat.not_lt_zero _)
  | k + 1, h, q, hq => by
    cases hb : G.testBit k
    · have e : gat j R G (k + 1) = gat j R G k := if_neg (by simp [hb])
      rw [e] at h
      rcases Nat.lt_or_ge q k with h1 | h1
      · exact gat_some j R G k h q h1
      · obtain rfl : q = k := by omega
        exact hb
    · have e : gat j R G (k + 1) = (match gat j R G k with | none => some (nth R k) | some x => some (List.zipWith j x (nth R k))) := if_pos hb
      rw [e] at h
      cases hg : gat j R G k <;> rw [hg] at h <;> cases h
theorem gather_rows (meet : Bool) (M : Mo) (G N : Nat) (ok : MoOk M N) (h1 : 1 ≤ G) (h2 : (G : Int) < p2 M.rel.length) : gather (jOf meet) M G = gRows meet M.rel G N := by
  unfold gather isGroup
  rw [if_pos (by simp [ok.check]; exact ⟨by omega, h2⟩), Int.toNat_natCast]
  have hz : ∀ q, q < M.rel.length → ∀ w, w < N → jOf meet (zOf meet N) (nth (nth M.rel q) w) = nth (nth M.rel q) w := by
    intro q hq w hw
    cases meet
    · simp [jOf, zOf]
    · show allW N &&& _ = _
      have hr : nth M.rel q ∈ M.rel := by rw [nth_eq _ _ hq]; exact List.getElem_mem _
      have hl := ok.row _ hr
      have hs : nth (nth M.rel q) w ∈ nth M.rel q := by rw [nth_eq _ w (by omega)]; exact List.getElem_mem _
      have := andNot_zero.1 (ok.relIn _ hr _ hs)
      apply bt_ext
      intro v hv
      rw [bt_and, Bool.eq_iff_iff, Bool.and_eq_true]
      exact ⟨fun h => h.2, fun h => ⟨this v hv h, h⟩⟩
  have hG := gat_row (jOf meet) (zOf meet N) M.rel G N ok.row hz M.rel.length (Nat.le_refl _)
  cases hg : gat (jOf meet) M.rel G M.rel.length with
  | none =>
    exfalso
    have hno := gat_some (jOf meet) M.rel G M.rel.length hg
    have : G = 0 := by
      apply Nat.eq_of_testBit_eq
      intro i
      rw [Nat.zero_testBit]
      rcases Nat.lt_or_ge i M.rel.length with h | h
      · exact hno i h
      · apply Nat.testBit_lt_two_pow
        unfold p2 at h2
        exact Nat.lt_of_lt_of_le (by omega) (Nat.pow_le_pow_right (by omega) h)
    omega
  | some x =>
    rw [hg] at hG
    have hxl : x.length = N := (hG 0 (by have := ok.one; omega)).1
    apply List.ext_getElem
    · simp [gRows, hxl]
    · intro w hw1 hw2
      have hwN : w < N := by simpa [hxl] using hw1
      have h3 : nth x w = _ := (hG w hwN).2
      rw [nth_eq _ _ (by omega)] at h3
      simp only [Option.getD_some]
      rw [h3]
      simp [gRows]
set_option maxHeartbeats 1000000 in
theorem r13Group_any (M : Mo) (va ra : Option Addr) (vc rc : Nat) (G N : Nat) (w : World) (hr : RM w va ra M) (ok : MoOk M N) (h1 : 1 ≤ G) (h2 : (G : Int) < p2 M.rel.length) :
    Calls Try.prog 66 #[.agg #[.int .i64 M.worlds, .slice va M.val.length vc, .slice ra M.rel.length rc], .int .i64 (G : Int)] w fun e w' => RetU (groupOf M G) e w w' := by
  have hE0 := (Ext.refl w).alloc (.cells #[.int .i64 M.worlds, .slice va M.val.length vc, .slice ra M.rel.length rc] 25)
  have H := Lib.hid (r13group_any false M va ra vc rc G N _ (hr.ext hE0) ok h1 h2)
  have HE := Lib.hid hE0
  have HG := Lib.hid (gather_rows false M G N ok h1 h2)
  obtain ⟨m0, m1, m2⟩ := MoBox.new w M.worlds M.val M.rel va vc ra rc 25
  clear hE0 hr ok h1 h2
  go_enter Try.func66, Try.ntmps66
  go_wp2_with (go_at_call 91; refine H.out.mono ?_; rintro e w1 ⟨a, c, rfl, hu, hE1⟩)
  go_ret
  have e : groupOf M G = gRows false M.rel G N := HG.out
  rw [e]
  exact ⟨a, c, rfl, hu, HE.out.trans hE1⟩
set_option maxHeartbeats 1000000 in
theorem r13Meet_any (M : Mo) (va ra : Option Addr) (vc rc : Nat) (G N : Nat) (w : World) (hr : RM w va ra M) (ok : MoOk M N) (h1 : 1 ≤ G) (h2 : (G : Int) < p2 M.rel.length) :
    Calls Try.prog 67 #[.agg #[.int .i64 M.worlds, .slice va M.val.length vc, .slice ra M.rel.length rc], .int .i64 (G : Int)] w fun e w' => RetU (meetOf M G) e w w' := by
  have hE0 := (Ext.refl w).alloc (.cells #[.int .i64 M.worlds, .slice va M.val.length vc, .slice ra M.rel.length rc] 25)
  have H := Lib.hid (r13group_any true M va ra vc rc G N _ (hr.ext hE0) ok h1 h2)
  have HE := Lib.hid hE0
  have HG := Lib.hid (gather_rows true M G N ok h1 h2)
  obtain ⟨m0, m1, m2⟩ := MoBox.new w M.worlds M.val M.rel va vc ra rc 25
  clear hE0 hr ok h1 h2
  go_enter Try.func67, Try.ntmps67
  go_wp2_with (go_at_call 91; refine H.out.mono ?_; rintro e w1 ⟨a, c, rfl, hu, hE1⟩)
  go_ret
  have e : meetOf M G = gRows true M.rel G N := HG.out
  rw [e]
  exact ⟨a, c, rfl, hu, HE.out.trans hE1⟩
end Wt

/- Walks: wittingref17.One (printed by gen_r17c.py). -/
namespace Wt
open Go Go.RowKit Go.Maps Go.Proofs Fm

theorem rel_ok {r : List (BitVec 64)} {N : Nat} (hl : r.length = N) (h64 : N ≤ 64) (hrow : ∀ v, v < N → Sub (nth r v) (allW N)) : relCheck r = 0 := by
  unfold relCheck
  rw [if_neg (by omega), if_neg]
  unfold relBad
  rw [hl]
  simp only [Bool.not_eq_true]
  refine List.any_eq_false.2 fun s hs => ?_
  obtain ⟨k, hk, rfl⟩ := List.getElem_of_mem hs
  have := hrow k (by omega)
  rw [nth_eq _ _ hk] at this
  simp [outOne, andNot_zero.2 this]
theorem row_in {M : Mo} {N : Nat} (ok : MoOk M N) {k : Nat} (hk : k < M.rel.length) : (nth M.rel k).length = N ∧ ∀ v, v < N → Sub (nth (nth M.rel k) v) (allW N) := by
  have hr : nth M.rel k ∈ M.rel := by rw [nth_eq _ _ hk]; exact List.getElem_mem _
  have hl := ok.row _ hr
  refine ⟨hl, fun v hv => andNot_zero.1 (ok.relIn _ hr _ ?_)⟩
  have e : nth (nth M.rel k) v = (nth M.rel k)[v]'(by omega) := nth_eq _ v (by omega)
  rw [e]; exact List.getElem_mem _
theorem gRow_in (meet : Bool) {M : Mo} {N : Nat} (ok : MoOk M N) (G v : Nat) (hv : v < N) : ∀ q, q ≤ M.rel.length → Sub (gRow (jOf meet) (zOf meet N) M.rel G v q) (allW N)
  | 0, _ => by
    cases meet
    · intro k _ h; rw [show gRow (jOf false) (zOf false N) M.rel G v 0 = 0#64 from rfl, bt_zero] at h; cases h
    · exact Sub.refl _
  | q + 1, hq => by
    have ih := gRow_in meet ok G v hv q (by omega)
    have hr := (row_in ok (k := q) (by omega)).2 v hv
    cases hb : G.testBit q
    · rw [gRow_no hb]; exact ih
    · rw [gRow_yes hb]
      cases meet
      · exact Sub.or ih hr
      · intro k hk h
        have h' : bt (gRow (jOf true) (zOf true N) M.rel G v q &&& nth (nth M.rel q) v) k = true := h
        rw [bt_and, Bool.and_eq_true] at h'
        exact ih k hk h'.1
theorem gRows_in (meet : Bool) {M : Mo} {N : Nat} (ok : MoOk M N) (G : Nat) : (gRows meet M.rel G N).length = N ∧ ∀ v, v < N → Sub (nth (gRows meet M.rel G N) v) (allW N) := by
  refine ⟨by simp [gRows], fun v hv => ?_⟩
  rw [nth_eq _ _ (by simp [gRows]; exact hv)]
  simp only [gRows, List.getElem_map, List.getElem_range]
  exact gRow_in meet ok G v hv _ (Nat.le_refl _)
theorem group_in {M : Mo} {N : Nat} (ok : MoOk M N) {G : Nat} (h1 : 1 ≤ G) (h2 : (G : Int) < p2 M.rel.length) : (groupOf M G).length = N ∧ ∀ v, v < N → Sub (nth (groupOf M G) v) (allW N) := by
  have e : groupOf M G = gRows false M.rel G N := gather_rows false M G N ok h1 h2
  rw [e]; exact gRows_in false ok G
theorem meet_in {M : Mo} {N : Nat} (ok : MoOk M N) {G : Nat} (h1 : 1 ≤ G) (h2 : (G : Int) < p2 M.rel.length) : (meetOf M G).length = N ∧ ∀ v, v < N → Sub (nth (meetOf M G) v) (allW N) := by
  have e : meetOf M G = gRows true M.rel G N := gather_rows true M G N ok h1 h2
  rw [e]; exact gRows_in true ok G
theorem r17BoxL (a : Option Addr) (r : List (BitVec 64)) (c n m : Nat) (s : BitVec 64) (w : World) (hr : RU w a r) (hn : n ≤ r.length) (h64 : n ≤ 64) (hm : r.length = m) :
    Calls Try.prog 65 #[.slice a m c, .int .i64 (n : Int), .int .u64 (un s)] w fun e w' => e = .returned (.int .u64 (un (boxTo r s n))) ∧ w = w' := by
  subst hm; exact r17Box_any a r c n s w hr hn h64
def Ret1 (v : BitVec 64) (e : Ending) (w w' : World) : Prop := e = .returned (.int .u64 (un v)) ∧ Ext w w'
end Wt
