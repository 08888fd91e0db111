/- Walk: wittingref22.Pool. -/
import Derived.Test.YtaghfmcaikjobaaMObQ
namespace Wt
open Go Go.RowKit Go.Maps Go.Proofs Fm

/-- Nothing appended to an empty row. -/
theorem none_onto (W : World) (g c ty : Nat) : (Builtin.append_ #[22, 22] ty #[.slice (some ⟨g, 0, none⟩) 0 0, .slice none 0 c]).run Try.prog W = .ok (.slice (some ⟨g, 0, none⟩) 0 0) W := by
  obtain ⟨i5, hn1, hv0, hv1, hv2⟩ := info_parts node_infoP
  simp [Builtin.append_, run_underlying Try.underlying22, Go.sizeOf, typeInfo, hn1, Builtin.lenOf, Builtin.firstCells, storeCells]
set_option maxRecDepth 20000 in
set_option maxHeartbeats 4000000 in
theorem r22pool_any (seen : List (List (List Nd))) (sa : Option Addr) (sc : Nat) (g : Int) (w : World) (hs : RNNN w sa seen) (hF : FewS seen) :
    Calls Try.prog 20 #[.slice sa seen.length sc, .int .i64 g] w fun e w' => RetPl (poolOf seen g) (poolErr seen g) e w w' := by
  have h6 := hF.agents
  have h63 : seen.length < 63 := by omega
  have HS := Lib.hid hs
  have HF := Lib.hid hF
  clear hs hF
  by_cases hz : poolErr seen g = 0
  rotate_left
  · have hn : poolErr seen g = 2 := by
      unfold poolErr at hz ⊢
      split
      · rfl
      · next h => rw [if_neg h] at hz; exact absurd rfl hz
    have hn2 : poolOf seen g = [] := by unfold poolOf; rw [if_neg hz]
    have hd : (decide ((4 : Int) < seen.length) || decide (g < 1) || decide (p2 seen.length ≤ g)) = true := by
      have h2 : 4 < seen.length ∨ g < 1 ∨ p2 seen.length ≤ g := by
        by_cases h : 4 < seen.length ∨ g < 1 ∨ p2 seen.length ≤ g
        · exact h
        · unfold poolErr at hz; rw [if_neg h] at hz; exact absurd rfl hz
      rcases h2 with h | h | h
      · simp [show (4 : Int) < seen.length by omega]
      · simp [h]
      · simp [h]
    have HN := Lib.hid hn
    have HN2 := Lib.hid hn2
    clear hz hn hn2
    cases d1 : decide ((4 : Int) < seen.length) <;> cases d2 : decide (g < 1) <;> cases d3 : decide (p2 seen.length ≤ g)
    all_goals rw [d1, d2, d3] at hd
    case false.false.false => cases hd
    all_goals
      clear hd
      go_enter Try.func20, Try.ntmps20
      go_wp2_with fail
      go_ret2
      exact ⟨none, 0, by rw [HN.out, HN2.out]; rfl, by rw [HN2.out]; exact RNN.nil _ _, Ext.refl _⟩
  · have hz2 : ¬ (4 < seen.length ∨ g < 1 ∨ p2 seen.length ≤ g) := by
      intro h; unfold poolErr at hz; rw [if_pos h] at hz; omega
    obtain ⟨gn, rfl⟩ := Int.eq_ofNat_of_zero_le (show 0 ≤ g by omega)
    have hn2 : poolOf seen gn = poolTo seen gn seen.length := by unfold poolOf; rw [if_pos hz]; simp
    have d1 : decide ((4 : Int) < seen.length) = false := by simp; omega
    have d2 : decide ((gn : Int) < 1) = false := by simp; omega
    have d3 : decide (p2 seen.length ≤ (gn : Int)) = false := by simp; omega
    have hgn : gn < 9223372036854775808 := by
      have h3 : (gn : Int) < p2 seen.length := by omega
      unfold p2 at h3
      have h5 : 2 ^ seen.length ≤ 2 ^ 4 := Nat.pow_le_pow_right (by omega) (by omega)
      omega
    have HN := Lib.hid hz
    have HN2 := Lib.hid hn2
    obtain ⟨i0, hi1, hz0, hz1, hz2'⟩ := info_parts sn_infoP
    obtain ⟨i5, hn1, hv0, hv1, hv2⟩ := info_parts node_infoP
    clear hz hz2 hn2
    go_enter Try.func20, Try.ntmps20
    go_wp2_with fail
    go_loopw [6, 7] (fun v i wr => ∃ k : Nat, k ≤ seen.length ∧ i = .int .i64 (k : Int) ∧ PLV w (poolTo seen gn k) v wr) (fun _ i _ => seen.length - (intOf i).toNat)
    case atStart => exact ⟨0, Nat.zero_le _, rfl, [], PL.nil w⟩
    case round =>
      obtain ⟨k, hk, rfl, svs0, hP⟩ := hrel
      have HP := Lib.hid hP
      by_cases hlt : k < seen.length
      · obtain ⟨b, off, a1, c1, rfl, hb0, hc0, hu⟩ := HS.out.get k hlt
        have hc := hP.e.cell hc0
        have hb : b < wr.heap.size := Nat.lt_of_lt_of_le hb0 hP.e.size
        have HU := Lib.hid hu
        cases hg : gn.testBit k
        · have hs : poolTo seen gn (k + 1) = poolTo seen gn k := by
            show poolTo seen gn k ++ (if gn.testBit k then nth seen k else []) = _
            rw [if_neg (by simp [hg]), List.append_nil]
          have hb0 : b01 gn k = 0 := by simp [b01, hg]
          have HS2 := Lib.hid hs
          clear hP hu hs hg
          go_wp2_with fail
          go_roundw
          case rel => exact ⟨k + 1, hlt, by go_num, svs0, by rw [HS2.out]; exact HP.out⟩
          case measure => simp [intOf]; omega
        · have hs : poolTo seen gn (k + 1) = poolTo seen gn k ++ nth seen k := by
            show poolTo seen gn k ++ (if gn.testBit k then nth seen k else []) = _
            rw [if_pos hg]
          have hb0 : b01 gn k = 1 := by simp [b01, hg]
          have HS2 := Lib.hid hs
          have hfs := HF.out.few _ (nth_mem hlt)
          have HFS := Lib.hid hfs
          have hll := hfs.1
          have hpl := (poolTo_len HF.out gn k hk).1
          clear hP hu hs hg hfs
          go_wp2_with fail
          go_loopw [6, 8] (fun v i wz => ∃ j : Nat, j ≤ (nth seen k).length ∧ i = .int .i64 (j : Int) ∧ PLV w (poolTo seen gn k ++ (nth seen k).take j) v wz) (fun _ i _ => (nth seen k).length - (intOf i).toNat)
          case atStart => exact ⟨0, Nat.zero_le _, rfl, svs0, by rw [List.take_zero, List.append_nil]; exact HP.out⟩
          case round =>
            rename World => wz
            obtain ⟨j, hj, rfl, svs, hQ⟩ := hrel
            have HQ := Lib.hid hQ
            have hcz := hQ.e.cell hc0
            have hbz : b < wz.heap.size := World.block_lt_of_cell? _ _ hcz
            by_cases hlt2 : j < (nth seen k).length
            · obtain ⟨b2, off2, a2, c2, rfl, hb2, hc2, hu2⟩ := HU.out.get j hlt2
              have hc3 := hQ.e.cell hc2
              have hb3 : b2 < wz.heap.size := Nat.lt_of_lt_of_le hb2 hQ.e.size
              have hx := HFS.out.2 _ (nth_mem hlt2)
              have hone : poolTo seen gn k ++ (nth seen k).take (j + 1) = (poolTo seen gn k ++ (nth seen k).take j) ++ [nth (nth seen k) j] := by
                rw [List.append_assoc, nth_eq _ _ hlt2, List.take_add_one, List.getElem?_eq_getElem hlt2]; rfl
              have HONE1 := Lib.hid hone
              have hsl : svs.length ≤ 200 := by rw [hQ.len, List.length_append, List.length_take]; omega
              have hsz : w.heap.size ≤ wz.heap.size := hQ.e.size
              have HU2 := Lib.hid hu2
              clear hQ hone hc2 hb2 hu2
              have hNL := rowN_length (nth (nth seen k) j)
              have HNO := Lib.hid (rowN_one (nth (nth seen k) j))
              cases a2 with
              | none =>
                have h0 : nth (nth seen k) j = [] := by
                  cases hq : nth (nth seen k) j with
                  | nil => rfl
                  | cons x l =>
                    obtain ⟨b9, o9, e9, _⟩ := HU2.out.at_ 0 (by rw [hq]; simp)
                    cases e9
                have H0 := Lib.hid h0
                rw [h0] at hc3
                clear h0
                have hap := fun (W : World) (g c ty : Nat) => none_onto W g c ty
                have HPA : Hid (∀ W, Ext wz W → PL w (poolTo seen gn k ++ (nth seen k).take j) svs u6 W) := Lib.hid fun W e => HQ.out.ext' e
                have HEM : Hid (∀ o, ((wz.alloc (.cells #[] 42)).alloc o).ownsRow w.heap.size 42 6 (.slice (some ⟨wz.heap.size, 0, none⟩) 0 0) ([] : List Nd).length (rowN [])) := Lib.hid fun o => own_mono (own_agree (World.ownsRow_made wz #[] 0 (Nat.le_refl _) (by unfold maxLen; omega) rfl) (Agree.ofExt ((Ext.refl _).alloc o))) hsz
                have HW2 : Hid (∀ u ∈ [Value.slice (some ⟨wz.heap.size, 0, none⟩) 0 0], u.oneCell' = true) := Lib.hid fun u hu => by rw [List.mem_singleton.1 hu]; rfl
                rw [H0.out] at HONE1
                go_wp2_with (at_builtin; refine wpList_append_lies (o := ⟨some 56, _, _, _, _, _⟩) _ rfl _ _ 38 rfl w.heap.size 22 i0 _ 1 24 Try.underlying38 hi1 hz0 hz1 hz2' rfl (by decide) u6 svs.length svs rfl (HPA.out _ (((Ext.refl wz).alloc _).alloc _)).own ⟨wz.heap.size + 1, 0, none⟩ 1 1 [.slice (some ⟨wz.heap.size, 0, none⟩) 0 0] rfl rfl (by have h := cell_one_new (wz.alloc (.cells #[] 42)) (.slice (some ⟨wz.heap.size, 0, none⟩) 0 0) 22; simpa using h) HW2.out (by decide) (by unfold maxLen; omega) (by omega) (by simp; omega) (wz.heap.size + 1 + 1) (by simp) ?_; intro gx cap W1 hown hgrow hat hlt9; have hpush := (HPA.out _ (((Ext.refl wz).alloc _).alloc _)).push (HEM.out _) hown hgrow; have HPU := Lib.hid hpush; clear hpush hown hgrow hat)
                go_roundw
                case rel => exact ⟨j + 1, hlt2, by go_num, _, by rw [HONE1.out]; exact HPU.out⟩
                case measure => simp [intOf]; omega
              | some a2 =>
                have HNW := Lib.hid HU2.out.news
                generalize nth (nth seen k) j = F at *
                have HPA : Hid (∀ W, Ext wz W → PL w (poolTo seen gn k ++ (nth seen k).take j) svs u6 W) := Lib.hid fun W e => HQ.out.ext' e
                have HW2 : ∀ v : Value, v.oneCell' = true → Hid (∀ u ∈ [v], u.oneCell' = true) := fun v hv => Lib.hid fun u hu => by rw [List.mem_singleton.1 hu]; exact hv
                go_wp2_with (first | (at_builtin; refine wpList_append_own_at (o := ⟨some 54, _, _, _, _, _⟩) _ rfl _ _ 22 rfl wz.heap.size 42 i5 _ 6 48 Try.underlying22 hn1 hv0 hv1 hv2 rfl (by decide) (.slice (some ⟨wz.heap.size, 0, none⟩) 0 0) 0 [] rfl (World.ownsRow_made wz #[] 0 (Nat.le_refl _) (by unfold maxLen; omega) rfl) a2 F.length c2 (rowN F) rfl (by omega) (fun j u h => ((Ext.refl wz).alloc _).cell ((HU2.out.ext HQ.out.e).news j u h)) HNO.out (by unfold maxLen; omega) (by omega) (by simp) ?_; intro v5 W5 hown5 hgr5 hat5 hlt5; rw [Nat.zero_add, List.nil_append] at hown5; obtain ⟨a6, c6, rfl, -⟩ := RN_of_own hown5 (by omega); have hE5 : Ext wz W5 := Below.grown ((Ext.refl wz).alloc _) hgr5 (Ext.size ((Ext.refl wz).alloc _)) (fun k hk => by simp [Value.ownBlock] at hk; omega); have HE5 := Lib.hid hE5; have HOWN5 := Lib.hid hown5; have hsz5 : w.heap.size ≤ W5.heap.size := Nat.le_trans hsz hE5.size; clear hown5 hgr5 hat5 hlt5 hE5) | (at_builtin; refine wpList_append_lies (o := ⟨some 56, _, _, _, _, _⟩) _ rfl _ _ 38 rfl w.heap.size 22 i0 _ 1 24 Try.underlying38 hi1 hz0 hz1 hz2' rfl (by decide) u6 svs.length svs rfl (HPA.out _ (HE5.out.alloc _)).own ⟨W5.heap.size, 0, none⟩ 1 1 [.slice a6 F.length c6] rfl rfl (cell_one_new _ _ _) (HW2 _ rfl).out (by decide) (by unfold maxLen; omega) (by omega) (Nat.le_trans hsz5 (by simp)) (W5.heap.size + 1) (by simp) ?_; intro gx cap W1 hown hgrow hat hlt9; have hpush := (HPA.out _ (HE5.out.alloc _)).push (own_mono (own_agree HOWN5.out (Agree.ofExt ((Ext.refl _).alloc _))) hsz) hown hgrow; have HPU := Lib.hid hpush; clear hpush hown hgrow hat))
                go_roundw
                case rel => exact ⟨j + 1, hlt2, by go_num, _, by rw [HONE1.out]; exact HPU.out⟩
                case measure => simp [intOf]; omega
            · obtain rfl : j = (nth seen k).length := by omega
              have HS3 : Hid (poolTo seen gn (k + 1) = poolTo seen gn k ++ (nth seen k).take (nth seen k).length) := Lib.hid (by rw [HS2.out, List.take_length])
              clear hQ
              go_wp2
              go_roundw
              case rel => exact ⟨k + 1, hlt, by go_num, svs, by rw [HS3.out]; exact HQ.out⟩
              case measure => simp [intOf]; omega
      · obtain rfl : k = seen.length := by omega
        obtain ⟨p1, p2⟩ := poolTo_len HF.out gn seen.length (Nat.le_refl _)
        obtain ⟨a, c, rfl, hr⟩ := hP.rnn (by omega) (fun f hf => by have := p2 f hf; omega)
        have HR := Lib.hid hr
        clear hP hr p2
        go_wp2
        go_ret2
        exact ⟨a, c, by rw [HN.out, HN2.out]; rfl, by rw [HN2.out]; exact HR.out, HP.out.e⟩
end Wt

/- Walks: wittingref22.alike, tables. -/
namespace Wt
open Go Go.RowKit Go.Maps Go.Proofs Fm

theorem r01HasN_any (s : BitVec 64) (n : Nat) (w : World) :
    Calls Try.prog 69 #[.int .u64 (un s), .int .i64 (n : Int)] w fun e w' => e = .returned (.bool (bt s n)) ∧ w = w' := by
  have h := r01Has_any s (n : Int) w
  rw [hasW_nat] at h
  exact h
set_option maxHeartbeats 2000000 in
theorem r22alike_any (ta : Option Addr) (tc : Nat) (ts : List (BitVec 64)) (v x : Nat) (w : World) (ht : RU w ta ts) :
    Calls Try.prog 45 #[.slice ta ts.length tc, .int .i64 (v : Int), .int .i64 (x : Int)] w fun e w' => e = .returned (.bool (alikeT ts v x)) ∧ Qu w w' := by
  have hl := ht.len
  have HT := Lib.hid ht
  clear ht
  go_enter Try.func45, Try.ntmps45
  go_wp2
  go_loopw [7] (fun i wr => ∃ k : Nat, k ≤ ts.length ∧ i = .int .i64 (k : Int) ∧ Qu w wr ∧ Hid (∀ j, j < k → bt (nth ts j) v = bt (nth ts j) x)) (fun i _ => ts.length - (intOf i).toNat)
  case atStart => exact ⟨0, Nat.zero_le _, rfl, Qu.refl _, Lib.hid fun j hj => absurd hj (Nat.not_lt_zero _)⟩
  case round =>
    obtain ⟨k, hk, rfl, hQ, hok⟩ := hrel
    have HQ := Lib.hid hQ
    by_cases hlt : k < ts.length
    · obtain ⟨b, off, rfl, hb, hc⟩ := (HT.out.ext hQ.ext).get hlt
      by_cases he : bt (nth ts k) v = bt (nth ts k) x
      · have HE := Lib.hid he
        have hne : (!(bt (nth ts k) v == bt (nth ts k) x)) = false := by simp [he]
        have hne2 : (bt (nth ts k) v == bt (nth ts k) x) = true := by simp [he]
        clear he hQ
        go_wp2_with fail
        go_quiet ((go_at_call 69; exact Calls.quiet_of_same ((r01HasN_any _ _ _).mono fun _ _ h => ⟨h.1, h.2.symm⟩)))
        go_wp2
        go_roundw
        case rel => exact ⟨k + 1, hlt, by go_num, HQ.out.drewN _, lt_step hok HE.out⟩
        case measure => simp [intOf]; omega
      · have hn : alikeT ts v x = false := by
          unfold alikeT
          rw [List.all_eq_false]
          exact ⟨_, nth_mem hlt, by simp [he]⟩
        have HN := Lib.hid hn
        have hne2 : (bt (nth ts k) v == bt (nth ts k) x) = false := by simp [he]
        clear he hQ hn
        go_wp2_with fail
        go_quiet ((go_at_call 69; exact Calls.quiet_of_same ((r01HasN_any _ _ _).mono fun _ _ h => ⟨h.1, h.2.symm⟩)))
        go_wp2
        go_ret
        exact ⟨by rw [HN.out]; rfl, HQ.out.drewN _⟩
    · obtain rfl : k = ts.length := by omega
      have hn : alikeT ts v x = true := by
        unfold alikeT
        rw [List.all_eq_true]
        intro t ht
        obtain ⟨j, hj, rfl⟩ := mem_nth ht
        simp [hok.out j hj]
      have HN := Lib.hid hn
      clear hn hQ hok
      go_wp2
      go_ret
      exact ⟨by rw [HN.out]; rfl, HQ.out⟩
/-- The tables of formulas, or none. -/
def tabsL (n : Int) (l : List (List Nd)) : List (BitVec 64) := if tabsErr n l = 0 then l.map fun f => tabOf f n else []
set_option maxRecDepth 20000 in
set_option maxHeartbeats 4000000 in
theorem r22tables_any (n : Int) (la : Option Addr) (lc : Nat) (l : List (List Nd)) (w : World) (hl : RNN w la l) (h1000 : l.length ≤ 1000) :
    Calls Try.prog 43 #[.int .i64 n, .slice la l.length lc] w fun e w' => (∃ v, e = .returned (.tuple #[v, .int .i64 (tabsErr n l)]) ∧ OU w' w.heap.size v (tabsL n l)) ∧ Ext w w' := by
  obtain ⟨i0, hi1, hz0, hz1, hz2⟩ := info_parts u64_info
  have HL := Lib.hid hl
  generalize hrE : l.map (fun f => tabOf f n) = row
  have hrl : row.length = l.length := by rw [← hrE]; simp
  have HROW : Hid (∀ j, j < l.length → nth row j = tabOf (nth l j) n) := Lib.hid fun j hj => by rw [← hrE]; exact nth_mapN _ _ hj
  have HRL := Lib.hid hrl
  have HRE := Lib.hid hrE
  clear hl hrE hrl
  go_enter Try.func43, Try.ntmps43
  go_wp2
  go_loopw [6, 7] (fun v i wz => ∃ j : Nat, j ≤ l.length ∧ i = .int .i64 (j : Int) ∧ GLE w row j v wz ∧ Hid (∀ x, x < j → tabErr (nth l x) n = 0)) (fun _ i _ => l.length - (intOf i).toNat)
  case atStart => exact ⟨0, Nat.zero_le _, rfl, ⟨Ext.refl _, World.ownsRow_nil _ _ _ _⟩, Lib.hid fun j hj => absurd hj (Nat.not_lt_zero _)⟩
  case round =>
    rename World => wz
    obtain ⟨j, hj, rfl, hGL, hok⟩ := hrel
    have hGL : GL w 49 uv (row.take j) u6 wz := hGL
    have HGL := Lib.hid hGL
    by_cases hjl : j < l.length
    · obtain ⟨b, off, a1, c1, rfl, hb0, hc0, hu⟩ := HL.out.get j hjl
      have hc := hGL.e.cell hc0
      have hb : b < wz.heap.size := Nat.lt_of_lt_of_le hb0 hGL.e.size
      have HTB := Lib.hid (r09Table_any a1 c1 (nth l j) n wz (hu.ext hGL.e))
      have htk : (row.take j).length = j := by rw [List.length_take, HRL.out]; omega
      have HTK := Lib.hid htk
      have hx : nth row j = tabOf (nth l j) n := HROW.out j hjl
      have hone : row.take (j + 1) = row.take j ++ [tabOf (nth l j) n] := by
        rw [← hx, nth_eq _ _ (by rw [HRL.out]; exact hjl), List.take_add_one, List.getElem?_eq_getElem (by rw [HRL.out]; exact hjl)]; rfl
      have HONE1 := Lib.hid hone
      have hszz : w.heap.size ≤ wz.heap.size := hGL.e.size
      have HPA : Hid (∀ W o, Ext wz W → GL w 49 uv (row.take j) u6 (W.alloc o)) := Lib.hid fun W o hW => HGL.out.ext' (hW.alloc o)
      have HOW : Hid (∀ W o, Ext wz W → (W.alloc o).ownsRow w.heap.size 49 1 u6 j ((row.take j).map uv)) := Lib.hid fun W o hW => by
        have h := (HPA.out W o hW).own
        rw [HTK.out] at h; exact h
      have HONE : Hid (∀ u ∈ [Value.int .u64 (un (tabOf (nth l j) n))], u.oneCell' = true) := Lib.hid fun u hu => by rw [List.mem_singleton.1 hu]; rfl
      by_cases hT : tabErr (nth l j) n = 0
      · have HT0 := Lib.hid hT
        clear hGL hc0 hb0 hu htk hx hone hT
        go_wp2_with (first | (go_at_call 42; refine HTB.out.mono ?_; rintro _ w1 ⟨rfl, hE1⟩; rw [HT0.out]; have hsz1 : w.heap.size ≤ w1.heap.size := Nat.le_trans hszz hE1.size) | (at_builtin; refine wpList_append_lies _ rfl _ _ 26 rfl w.heap.size 49 i0 _ 1 8 Try.underlying26 hi1 hz0 hz1 hz2 rfl (by decide) u6 j _ rfl (HOW.out _ _ hE1) ⟨w1.heap.size, 0, none⟩ 1 1 [.int .u64 (un (tabOf (nth l j) n))] rfl rfl (cell_one_new _ _ _) HONE.out (by decide) (by unfold maxLen; omega) (by omega) (Nat.le_trans hsz1 (by simp)) (w1.heap.size + 1) (by simp) ?_; intro gx cap W1 hown hgrow hat hlt2; have hpush := (HPA.out _ _ hE1).push (x := tabOf (nth l j) n) (by rw [HTK.out]; exact hown) hgrow; have HPU := Lib.hid hpush; clear hpush hown hgrow hat))
        go_roundw
        case rel => exact ⟨j + 1, hjl, by go_num, (by show GL _ _ _ (row.take (j + 1)) _ _; rw [HONE1.out]; exact HPU.out), lt_step hok HT0.out⟩
        case measure => simp [intOf]; omega
      · have hq : (tabErr (nth l j) n != 0) = true := by simp [hT]
        have hn := tabsErr_at hjl hok.out hT
        have hn2 : tabsL n l = [] := by unfold tabsL; rw [if_neg (by rw [hn]; exact hT)]
        have HN := Lib.hid hn
        have HN2 := Lib.hid hn2
        clear hGL hc0 hb0 hu htk hx hone hT hn hn2
        go_wp2_with (go_at_call 42; refine HTB.out.mono ?_; rintro _ w1 ⟨rfl, hE1⟩)
        go_ret2
        exact ⟨⟨.slice none 0 0, by rw [HN.out]; rfl, by rw [HN2.out]; exact World.ownsRow_nil _ _ _ _⟩, HGL.out.e.trans hE1⟩
    · obtain rfl : j = l.length := by omega
      have hn := tabsErr_none hok.out
      have hfull : row.take l.length = row := by rw [← HRL.out]; exact List.take_length
      rw [hfull] at HGL
      have hn2 : tabsL n l = row := by unfold tabsL; rw [if_pos hn]; exact HRE.out
      have HN := Lib.hid hn
      have HN2 := Lib.hid hn2
      clear hGL hn hn2 hfull hok
      go_wp2
      go_ret2
      exact ⟨⟨u6, by rw [HN.out]; rfl, by rw [HN2.out]; exact HGL.out.own⟩, HGL.out.e⟩
end Wt
