/- Walks: wittingref22.limits, tables, alike, Few, Count. -/
import Derived.Test.YtflnfcmbalhpnaaGreatDoorM5Ac
import Derived.Test.YtflnfcmbalhpnaaGreatDoorM4Bi
namespace Wt
open Go Go.RowKit Go.Maps Go.Proofs Fm

def limE (seen : List (List (List Nd))) : Int := if 4 < seen.length ∨ ∃ l ∈ seen, 16 < l.length then 8 else 0
set_option maxHeartbeats 1000000 in
theorem r22limits_any (sa : Option Addr) (sc : Nat) (seen : List (List (List Nd))) (w : World) (hs : RNNN w sa seen) :
    Calls Tryz.prog 86 #[.slice sa seen.length sc] w fun e w' => e = .returned (.int .i64 (limE seen)) ∧ w = w' := by
  have hl := hs.len
  have HS := Lib.hid hs
  clear hs
  by_cases h4 : 4 < seen.length
  · have hn : limE seen = 8 := if_pos (.inl h4)
    have HN := Lib.hid hn
    have hd : decide ((4 : Int) < seen.length) = true := decide_eq_true (by omega)
    clear hn h4
    go_enter Tryz.func86, Tryz.ntmps86
    go_wp2
    go_ret
    exact ⟨by rw [HN.out]; rfl, rfl⟩
  · have hd : decide ((4 : Int) < seen.length) = false := decide_eq_false (by omega)
    have H4 := Lib.hid h4
    clear h4
    go_enter Tryz.func86, Tryz.ntmps86
    go_wp2
    go_loop [3] (fun i => ∃ k : Nat, k ≤ seen.length ∧ i = .int .i64 (k : Int) ∧ Hid (∀ j, j < k → ¬ 16 < (nth seen j).length)) (fun i => seen.length - (intOf i).toNat)
    case atStart => exact ⟨0, Nat.zero_le _, rfl, Lib.hid fun j hj => absurd hj (Nat.not_lt_zero _)⟩
    case round =>
      obtain ⟨k, hk, rfl, hok⟩ := hrel
      by_cases hlt : k < seen.length
      · obtain ⟨b, off, a1, c1, rfl, hb0, hc0, hu⟩ := HS.out.get k hlt
        have hul := hu.len
        by_cases h16 : 16 < (nth seen k).length
        · have hn : limE seen = 8 := if_pos (.inr ⟨_, nth_mem hlt, h16⟩)
          have HN := Lib.hid hn
          have hd2 : decide ((16 : Int) < (nth seen k).length) = true := decide_eq_true (by omega)
          clear hn h16 hu
          go_wp2
          go_ret
          exact ⟨by rw [HN.out]; rfl, rfl⟩
        · have hd2 : decide ((16 : Int) < (nth seen k).length) = false := decide_eq_false (by omega)
          have H16 := Lib.hid h16
          clear h16 hu
          go_wp2
          go_round
          case rel => exact ⟨k + 1, hlt, by go_num, lt_step hok H16.out⟩
          case measure => simp [intOf]; omega
      · obtain rfl : k = seen.length := by omega
        have hn : limE seen = 0 := if_neg (fun h => by
          rcases h with h | ⟨l, hl, h⟩
          · exact H4.out h
          · obtain ⟨j, hj, rfl⟩ := mem_nth hl
            exact hok.out j hj h)
        have HN := Lib.hid hn
        clear hn
        go_wp2
        go_ret
        exact ⟨by rw [HN.out]; rfl, rfl⟩
end Wt

namespace Wt
open Go Go.RowKit Go.Maps Go.Proofs Fm

theorem r01HasN_any (s : BitVec 64) (n : Nat) (w : World) :
    Calls Tryz.prog 123 #[.int .u64 (un s), .int .i64 (n : Int)] w fun e w' => e = .returned (.bool (bt s n)) ∧ w = w' := by
  have h := r01Has_any s (n : Int) w
  rw [hasW_nat] at h
  exact h
set_option maxHeartbeats 2000000 in
theorem r22alike_any (ta : Option Addr) (tc : Nat) (ts : List (BitVec 64)) (v x : Nat) (w : World) (ht : RU w ta ts) :
    Calls Tryz.prog 89 #[.slice ta ts.length tc, .int .i64 (v : Int), .int .i64 (x : Int)] w fun e w' => e = .returned (.bool (alikeT ts v x)) ∧ Qu w w' := by
  have hl := ht.len
  have HT := Lib.hid ht
  clear ht
  go_enter Tryz.func89, Tryz.ntmps89
  go_wp2
  go_loopw [7] (fun i wr => ∃ k : Nat, k ≤ ts.length ∧ i = .int .i64 (k : Int) ∧ Qu w wr ∧ Hid (∀ j, j < k → bt (nth ts j) v = bt (nth ts j) x)) (fun i _ => ts.length - (intOf i).toNat)
  case atStart => exact ⟨0, Nat.zero_le _, rfl, Qu.refl _, Lib.hid fun j hj => absurd hj (Nat.not_lt_zero _)⟩
  case round =>
    obtain ⟨k, hk, rfl, hQ, hok⟩ := hrel
    have HQ := Lib.hid hQ
    by_cases hlt : k < ts.length
    · obtain ⟨b, off, rfl, hb, hc⟩ := (HT.out.ext hQ.ext).get hlt
      by_cases he : bt (nth ts k) v = bt (nth ts k) x
      · have HE := Lib.hid he
        have hne : (!(bt (nth ts k) v == bt (nth ts k) x)) = false := by simp [he]
        have hne2 : (bt (nth ts k) v == bt (nth ts k) x) = true := by simp [he]
        clear he hQ
        go_wp2_with fail
        go_quiet ((go_at_call 123; exact Calls.quiet_of_same ((r01HasN_any _ _ _).mono fun _ _ h => ⟨h.1, h.2.symm⟩)))
        go_wp2
        go_roundw
        case rel => exact ⟨k + 1, hlt, by go_num, HQ.out.drewN _, lt_step hok HE.out⟩
        case measure => simp [intOf]; omega
      · have hn : alikeT ts v x = false := by
          unfold alikeT
          rw [List.all_eq_false]
          exact ⟨_, nth_mem hlt, by simp [he]⟩
        have HN := Lib.hid hn
        have hne2 : (bt (nth ts k) v == bt (nth ts k) x) = false := by simp [he]
        clear he hQ hn
        go_wp2_with fail
        go_quiet ((go_at_call 123; exact Calls.quiet_of_same ((r01HasN_any _ _ _).mono fun _ _ h => ⟨h.1, h.2.symm⟩)))
        go_wp2
        go_ret
        exact ⟨by rw [HN.out]; rfl, HQ.out.drewN _⟩
    · obtain rfl : k = ts.length := by omega
      have hn : alikeT ts v x = true := by
        unfold alikeT
        rw [List.all_eq_true]
        intro t ht
        obtain ⟨j, hj, rfl⟩ := mem_nth ht
        simp [hok.out j hj]
      have HN := Lib.hid hn
      clear hn hQ hok
      go_wp2
      go_ret
      exact ⟨by rw [HN.out]; rfl, HQ.out⟩
def tabsL (n : Int) (l : List (List Nd)) : List (BitVec 64) := if tabsErr n l = 0 then l.map fun f => tabOf f n else []
set_option maxRecDepth 20000 in
set_option maxHeartbeats 4000000 in
theorem r22tables_any (n : Int) (la : Option Addr) (lc : Nat) (l : List (List Nd)) (w : World) (hl : RNN w la l) (h1000 : l.length ≤ 1000) :
    Calls Tryz.prog 87 #[.int .i64 n, .slice la l.length lc] w fun e w' => (∃ v, e = .returned (.tuple #[v, .int .i64 (tabsErr n l)]) ∧ OU w' w.heap.size v (tabsL n l)) ∧ Ext w w' := by
  obtain ⟨i0, hi1, hz0, hz1, hz2⟩ := info_parts u64_info
  have HL := Lib.hid hl
  generalize hrE : l.map (fun f => tabOf f n) = row
  have hrl : row.length = l.length := by rw [← hrE]; simp
  have HROW : Hid (∀ j, j < l.length → nth row j = tabOf (nth l j) n) := Lib.hid fun j hj => by rw [← hrE]; exact nth_mapN _ _ hj
  have HRL := Lib.hid hrl
  have HRE := Lib.hid hrE
  clear hl hrE hrl
  go_enter Tryz.func87, Tryz.ntmps87
  go_wp2
  go_loopw [6, 7] (fun v i wz => ∃ j : Nat, j ≤ l.length ∧ i = .int .i64 (j : Int) ∧ GLE w row j v wz ∧ Hid (∀ x, x < j → tabErr (nth l x) n = 0)) (fun _ i _ => l.length - (intOf i).toNat)
  case atStart => exact ⟨0, Nat.zero_le _, rfl, ⟨Ext.refl _, World.ownsRow_nil _ _ _ _⟩, Lib.hid fun j hj => absurd hj (Nat.not_lt_zero _)⟩
  case round =>
    rename World => wz
    obtain ⟨j, hj, rfl, hGL, hok⟩ := hrel
    have hGL : GL w 85 uv (row.take j) u6 wz := hGL
    have HGL := Lib.hid hGL
    by_cases hjl : j < l.length
    · obtain ⟨b, off, a1, c1, rfl, hb0, hc0, hu⟩ := HL.out.get j hjl
      have hc := hGL.e.cell hc0
      have hb : b < wz.heap.size := Nat.lt_of_lt_of_le hb0 hGL.e.size
      have HTB := Lib.hid (r09Table_any a1 c1 (nth l j) n wz (hu.ext hGL.e))
      have htk : (row.take j).length = j := by rw [List.length_take, HRL.out]; omega
      have HTK := Lib.hid htk
      have hx : nth row j = tabOf (nth l j) n := HROW.out j hjl
      have hone : row.take (j + 1) = row.take j ++ [tabOf (nth l j) n] := by
        rw [← hx, nth_eq _ _ (by rw [HRL.out]; exact hjl), List.take_add_one, List.getElem?_eq_getElem (by rw [HRL.out]; exact hjl)]; rfl
      have HONE1 := Lib.hid hone
      have hszz : w.heap.size ≤ wz.heap.size := hGL.e.size
      have HPA : Hid (∀ W o, Ext wz W → GL w 85 uv (row.take j) u6 (W.alloc o)) := Lib.hid fun W o hW => HGL.out.ext' (hW.alloc o)
      have HOW : Hid (∀ W o, Ext wz W → (W.alloc o).ownsRow w.heap.size 85 1 u6 j ((row.take j).map uv)) := Lib.hid fun W o hW => by
        have h := (HPA.out W o hW).own
        rw [HTK.out] at h; exact h
      have HONE : Hid (∀ u ∈ [Value.int .u64 (un (tabOf (nth l j) n))], u.oneCell' = true) := Lib.hid fun u hu => by rw [List.mem_singleton.1 hu]; rfl
      by_cases hT : tabErr (nth l j) n = 0
      · have HT0 := Lib.hid hT
        clear hGL hc0 hb0 hu htk hx hone hT
        go_wp2_with (first | (go_at_call 80; refine HTB.out.mono ?_; rintro _ w1 ⟨rfl, hE1⟩; rw [HT0.out]; have hsz1 : w.heap.size ≤ w1.heap.size := Nat.le_trans hszz hE1.size) | (at_builtin; refine wpList_append_lies _ rfl _ _ 22 rfl w.heap.size 85 i0 _ 1 8 Tryz.underlying22 hi1 hz0 hz1 hz2 rfl (by decide) u6 j _ rfl (HOW.out _ _ hE1) ⟨w1.heap.size, 0, none⟩ 1 1 [.int .u64 (un (tabOf (nth l j) n))] rfl rfl (cell_one_new _ _ _) HONE.out (by decide) (by unfold maxLen; omega) (by omega) (Nat.le_trans hsz1 (by simp)) (w1.heap.size + 1) (by simp) ?_; intro gx cap W1 hown hgrow hat hlt2; have hpush := (HPA.out _ _ hE1).push (x := tabOf (nth l j) n) (by rw [HTK.out]; exact hown) hgrow; have HPU := Lib.hid hpush; clear hpush hown hgrow hat))
        go_roundw
        case rel => exact ⟨j + 1, hjl, by go_num, (by show GL _ _ _ (row.take (j + 1)) _ _; rw [HONE1.out]; exact HPU.out), lt_step hok HT0.out⟩
        case measure => simp [intOf]; omega
      · have hq : (tabErr (nth l j) n != 0) = true := by simp [hT]
        have hn := tabsErr_at hjl hok.out hT
        have hn2 : tabsL n l = [] := by unfold tabsL; rw [if_neg (by rw [hn]; exact hT)]
        have HN := Lib.hid hn
        have HN2 := Lib.hid hn2
        clear hGL hc0 hb0 hu htk hx hone hT hn hn2
        go_wp2_with (go_at_call 80; refine HTB.out.mono ?_; rintro _ w1 ⟨rfl, hE1⟩)
        go_ret2
        exact ⟨⟨.slice none 0 0, by rw [HN.out]; rfl, by rw [HN2.out]; exact World.ownsRow_nil _ _ _ _⟩, HGL.out.e.trans hE1⟩
    · obtain rfl : j = l.length := by omega
      have hn := tabsErr_none hok.out
      have hfull : row.take l.length = row := by rw [← HRL.out]; exact List.take_length
      rw [hfull] at HGL
      have hn2 : tabsL n l = row := by unfold tabsL; rw [if_pos hn]; exact HRE.out
      have HN := Lib.hid hn
      have HN2 := Lib.hid hn2
      clear hGL hn hn2 hfull hok
      go_wp2
      go_ret2
      exact ⟨⟨u6, by rw [HN.out]; rfl, by rw [HN2.out]; exact HGL.out.own⟩, HGL.out.e⟩
end Wt
