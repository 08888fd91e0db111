/- Walks: wittingref05.Few, wittingref25.Few, wittinglaw25.few, same; slices.Index of numbers, wittingref25.position, both through. -/
import Derived.Test.YtoacdccachhjdaaGreatDoorMAAv
import Derived.Test.YtoacdccachhjdaaGreatDoorMAAp
import Derived.Test.YtoacdccachhjdaaGreatDoorMAAo
namespace Wt
open Go Go.RowKit Go.Maps Go.Proofs Fm

/-- Whether the formulas are small and few, and more. -/
def RetF5 (os : List (List Nd)) (e : Ending) (w w' : World) : Prop := ∃ b, e = .returned (.bool b) ∧ Ext w w' ∧ (b = true → os.length ≤ 10 ∧ ∀ j, j < os.length → (nth os j).length ≤ 60)
theorem posI_step {l : List Nat} {x : Int} {k : Nat} (h : ∀ j, j < k → ((nth l j : Nat) : Int) ≠ x) (hk : k < l.length) (he : ((nth l k : Nat) : Int) = x) : posI l x = (k : Int) := by
  have : l.findIdx? (fun n : Nat => (n : Int) == x) = some k := by
    rw [List.findIdx?_eq_some_iff_getElem]
    refine ⟨hk, by rw [← nth_eq _ _ hk]; simpa using he, fun j hj => ?_⟩
    have := h j hj
    rw [nth_eq _ _ (by omega)] at this
    simpa using this
  unfold posI; rw [this]
theorem posI_none {l : List Nat} {x : Int} (h : ∀ j, j < l.length → ((nth l j : Nat) : Int) ≠ x) : posI l x = -1 := by
  have : l.findIdx? (fun n : Nat => (n : Int) == x) = none := by
    rw [List.findIdx?_eq_none_iff]
    intro y hy
    obtain ⟨j, hj, rfl⟩ := mem_nth hy
    simpa using h j hj
  unfold posI; rw [this]
set_option maxHeartbeats 1000000 in
theorem index_any (l : List Nat) (x : Int) (a : Option Addr) (c : Nat) (w : World) (hr : RI w a (natI l)) :
    Calls Tryz.prog 74 #[.slice a l.length c, .int .i64 x] w fun e w' => e = .returned (.int .i64 (posI l x)) ∧ w = w' := by
  have HR := Lib.hid hr
  have hl := hr.len
  have hll : (natI l).length = l.length := by simp [natI]
  rw [hll] at hl
  clear hr
  go_enter Tryz.func74, Tryz.ntmps74
  go_wp2
  go_loop [8] (fun i => ∃ k : Nat, k ≤ l.length ∧ i = .int .i64 (k : Int) ∧ Hid (∀ j, j < k → ((nth l j : Nat) : Int) ≠ x)) (fun i => l.length - (intOf i).toNat)
  case atStart => exact ⟨0, Nat.zero_le _, rfl, fun _ h => absurd h (Nat.not_lt_zero _)⟩
  case round =>
    obtain ⟨k, hk, rfl, hno⟩ := hrel
    by_cases hlt : k < l.length
    · obtain ⟨b, off, rfl, hb, hc⟩ := HR.out.get (k := k) (by omega)
      rw [nth_natI hlt] at hc
      by_cases he : ((nth l k : Nat) : Int) = x
      · have hq : (x == ((nth l k : Nat) : Int)) = true := by simp [he]
        have hp := Lib.hid (posI_step hno.out hlt he)
        clear he
        go_wp2
        go_ret
        exact ⟨by rw [hp.out]; rfl, rfl⟩
      · have hq : (x == ((nth l k : Nat) : Int)) = false := by simp; exact fun h => he h.symm
        have hno2 : Hid (∀ j, j < k + 1 → ((nth l j : Nat) : Int) ≠ x) := Lib.hid (lt_step hno.out he)
        clear he
        go_wp2
        go_round
        case rel => exact ⟨k + 1, hlt, by go_num, hno2⟩
        case measure => simp [intOf]; omega
    · have hp := Lib.hid (posI_none (x := x) (l := l) fun j hj => hno.out j (by omega))
      go_wp2
      go_ret
      exact ⟨by rw [hp.out]; rfl, rfl⟩
/-- The rounds of through. -/
def ThE (w : World) (ws l : List Nat) (k : Nat) (v : Value) (wr : World) : Prop := GL w 3 iv (natI ((thr ws l).take k)) v wr
theorem thr_take (ws l : List Nat) {k : Nat} (hk : k < l.length) : natI ((thr ws l).take (k + 1)) = natI ((thr ws l).take k) ++ [((nth ws (nth l k) : Nat) : Int)] := by
  have h1 : k < (thr ws l).length := by rw [thr_len]; exact hk
  have h2 : (thr ws l)[k] = nth ws (nth l k) := by rw [← nth_eq _ _ h1]; exact nth_mapN _ _ hk
  rw [List.take_add_one, List.getElem?_eq_getElem h1, h2]
  simp [natI]
end Wt

/- Walks: wittingref13.Take, Restrict (printed by gen_take.py). -/
namespace Wt
open Go Go.RowKit Go.Maps Go.Proofs Fm

set_option maxRecDepth 20000 in
set_option maxHeartbeats 8000000 in
theorem r13Take_any (M : Mo) (va ra : Option Addr) (vc rc : Nat) (ws : List Nat) (wa : Option Addr) (wc : Nat) (w : World) (N : Nat) (ok : MoOk M N) (hm : RM w va ra M) (hw : RI w wa (natI ws)) (hws : ws.length ≤ 64) (hlt : ∀ i, i < ws.length → nth ws i < N) :
    Calls Tryz.prog 116 #[.agg #[.int .i64 M.worlds, .slice va M.val.length vc, .slice ra M.rel.length rc], .slice wa ws.length wc] w fun e w' => RetMO (arrM M ws) e w w' := by
  have hbx := MoBox.new w M.worlds M.val M.rel va vc ra rc 28
  have hv8 := ok.val
  have hr4 := ok.rel
  obtain ⟨i0, hi1, hz0, hz1, hz2⟩ := info_parts u64_info
  have HM := Lib.hid hm
  have HW := Lib.hid hw
  have HBX := Lib.hid hbx
  have OK := Lib.hid ok
  obtain ⟨m0, m1, m2⟩ := hbx
  dsimp only at m0 m1 m2
  clear hm hw ok
  go_enter Tryz.func116, Tryz.ntmps116
  go_wp2
  have hE0 : Ext w (((w.alloc (.cells #[.int .i64 M.worlds, .slice va M.val.length vc, .slice ra M.rel.length rc] 28)).alloc (.cells #[.int .i64 0, .slice none 0 0, .slice none 0 0] 28)).alloc (.cells #[.int .i64 (ws.length : Int), .slice none 0 0, .slice none 0 0] 28)) := (((Ext.refl w).alloc _).alloc _).alloc _
  have hA00 := OutAt.new3 w (.cells #[.int .i64 M.worlds, .slice va M.val.length vc, .slice ra M.rel.length rc] 28) (.cells #[.int .i64 0, .slice none 0 0, .slice none 0 0] 28) (.int .i64 (ws.length : Int)) (.slice none 0 0) (.slice none 0 0) 28
  have hA0 : AR (((w.alloc (.cells #[.int .i64 M.worlds, .slice va M.val.length vc, .slice ra M.rel.length rc] 28)).alloc (.cells #[.int .i64 0, .slice none 0 0, .slice none 0 0] 28)).alloc (.cells #[.int .i64 (ws.length : Int), .slice none 0 0, .slice none 0 0] 28)) w.heap.size ws.length [] [] [] (.slice none 0 0) (.slice none 0 0) (((w.alloc (.cells #[.int .i64 M.worlds, .slice va M.val.length vc, .slice ra M.rel.length rc] 28)).alloc (.cells #[.int .i64 0, .slice none 0 0, .slice none 0 0] 28)).alloc (.cells #[.int .i64 (ws.length : Int), .slice none 0 0, .slice none 0 0] 28)) :=
    ⟨Below.refl _ _, by simp, hA00, World.ownsRow_nil _ _ _ _, World.ownsRow_nil _ _ _ _, rfl, fun j hj => absurd hj (by simp), fun i j _ hj => absurd hj (by simp), fun j hj => absurd hj (by simp)⟩
  have hbx0 : MoBox (((w.alloc (.cells #[.int .i64 M.worlds, .slice va M.val.length vc, .slice ra M.rel.length rc] 28)).alloc (.cells #[.int .i64 0, .slice none 0 0, .slice none 0 0] 28)).alloc (.cells #[.int .i64 (ws.length : Int), .slice none 0 0, .slice none 0 0] 28)) w.heap.size ⟨M.worlds, M.val, M.rel⟩ va vc ra rc := HBX.out.ext (((Ext.refl _).alloc _).alloc _)
  have hres0 : OutAt (((w.alloc (.cells #[.int .i64 M.worlds, .slice va M.val.length vc, .slice ra M.rel.length rc] 28)).alloc (.cells #[.int .i64 0, .slice none 0 0, .slice none 0 0] 28)).alloc (.cells #[.int .i64 (ws.length : Int), .slice none 0 0, .slice none 0 0] 28)) (w.heap.size + 1) (.int .i64 0) (.slice none 0 0) (.slice none 0 0) := OutAt.new2 w _ _ _ _ _ _
  generalize hW0 : (((w.alloc (.cells #[.int .i64 M.worlds, .slice va M.val.length vc, .slice ra M.rel.length rc] 28)).alloc (.cells #[.int .i64 0, .slice none 0 0, .slice none 0 0] 28)).alloc (.cells #[.int .i64 (ws.length : Int), .slice none 0 0, .slice none 0 0] 28)) = W0 at *
  have HE0 := Lib.hid hE0
  have HV : Hid (∀ w', Ext W0 w' ∨ Below (w.heap.size + 2) W0 w' → Ext w w') := Lib.hid fun w' e => by
    rcases e with e | e
    · exact hE0.trans e
    · exact Below.trans hE0 (Below.mono e (by omega))
  have hlo := hA0.lo
  have HBOX : Hid (∀ w', Below (w.heap.size + 2) W0 w' → MoBox w' w.heap.size ⟨M.worlds, M.val, M.rel⟩ va vc ra rc) := Lib.hid fun w' e => by
    obtain ⟨q0, q1, q2⟩ := hbx0
    have hb := e.block w.heap.size (by omega)
    exact ⟨by rw [World.cell?_of_block (w := W0) hb]; exact q0, by rw [World.cell?_of_block (w := W0) hb]; exact q1, by rw [World.cell?_of_block (w := W0) hb]; exact q2⟩
  have HRES : Hid (∀ w', Below (w.heap.size + 2) W0 w' → OutAt w' (w.heap.size + 1) (.int .i64 0) (.slice none 0 0) (.slice none 0 0)) := Lib.hid fun w' e => hres0.keep (e.block _ (by omega))
  generalize hL : M.val.map (fun s => pullL s ws) = L
  have hLl : L.length = M.val.length := by rw [← hL]; simp
  have HL : Hid (∀ k, k < M.val.length → nth L k = pullL (nth M.val k) ws) := Lib.hid fun k hk => by rw [← hL]; exact nth_mapZ _ _ hk
  clear m0 m1 m2 hE0 hW0
  go_loopw [6] (fun i wr => ∃ k : Nat, k ≤ M.val.length ∧ i = .int .i64 (k : Int) ∧ ARV W0 w.heap.size ws.length L k wr) (fun i _ => M.val.length - (intOf i).toNat)
  case atStart => exact ⟨0, Nat.zero_le _, rfl, _, hA0⟩
  case round =>
    obtain ⟨k, hk, rfl, vv, hAR⟩ := hrel
    have HAR := Lib.hid hAR
    by_cases hkl : k < M.val.length
    · obtain ⟨b, off, rfl, hb, hc⟩ := (HM.out.val.ext (HV.out wr (.inr hAR.e))).get hkl
      obtain ⟨m0, m1, m2⟩ := HBOX.out wr hAR.e
      dsimp only at m0 m1 m2
      have hbm := World.block_lt_of_cell? wr _ m0
      obtain ⟨o0, o1, o2, ofz⟩ := hAR.out
      have hsz := hAR.out.lt
      have htk : (L.take k).length = k := by rw [List.length_take]; omega
      have HWS : Hid (∀ w', Ext wr w' → RI w' wa (natI ws)) := Lib.hid fun w' e => (HW.out.ext (HV.out wr (.inr HAR.out.e))).ext e
      have HPA : Hid (∀ w', Ext wr w' → AR W0 w.heap.size ws.length (L.take k) [] [] vv (.slice none 0 0) w') := Lib.hid fun w' e => HAR.out.ext' e
      have HONE : Hid (∀ u ∈ [Value.int .u64 (un (pullL (nth M.val k) ws))], u.oneCell' = true) := fun u hu => by
        rcases List.mem_singleton.1 hu with rfl
        rfl
      have hfz := ofz 1
      clear hAR
      go_wp2_with fail
      go_region_law (first | (refine step_append_lies _ (by rfl) _ _ 25 (by rfl) (w.heap.size + 3) 63 i0 _ 1 8 Tryz.underlying25 hi1 hz0 hz1 hz2 rfl (by decide) vv (L.take k).length ((L.take k).map uv) (by rfl) (HPA.out _ ((Ext.refl _).drew.alloc _)).ov ⟨wr.heap.size, 0, none⟩ 1 1 [.int .u64 (un (pullL (nth M.val k) ws))] (by rfl) (by rfl) (cell_one_new _ _ _) HONE.out (by decide) (by unfold maxLen; omega) (by omega) (by simp; omega) (wr.heap.size + 1) (by simp) ?_; intro gx cap w1 hown1 hgrow hat hlt2; obtain ⟨p0, p1, p2, pfz⟩ := (HPA.out _ ((Ext.refl _).drew.alloc _)).outV hgrow; have pf := pfz 1; clear pfz) | (refine step_go (by rfl) ?_; go_simp; refine (squeeze_any (nth M.val k) ws wa wc _ (HWS.out _ (by first | exact Ext.refl _ | exact (Ext.refl _).drew | exact (Ext.refl _).drew.alloc _))).mono ?_; rintro _ _ ⟨rfl, rfl⟩; dsimp only))
      all_goals
        have hx : nth L k = pullL (nth M.val k) ws := HL.out k hkl
        have hone : L.take (k + 1) = L.take k ++ [pullL (nth M.val k) ws] := by
          rw [← hx, nth_eq _ _ (by omega), List.take_add_one, List.getElem?_eq_getElem (by omega)]; rfl
        have hnew := (HPA.out _ ((Ext.refl _).drew.alloc _)).pushV hown1 hgrow
        have HNEW := Lib.hid hnew
        have HONE1 := Lib.hid hone
        clear hnew hown1 hgrow hone hx
        go_wp2
        go_roundw
        case rel => exact ⟨k + 1, hkl, by go_num, _, by rw [HONE1.out]; rw [htk] at HNEW; exact HNEW.out⟩
        case measure => simp [intOf]; omega
    · obtain rfl : k = M.val.length := by omega
      have hfull : L.take M.val.length = L := List.take_of_length_le (by omega)
      rw [hfull] at hAR
      have HA2 := Lib.hid hAR
      obtain ⟨m0, m1, m2⟩ := HBOX.out wr hAR.e
      dsimp only at m0 m1 m2
      obtain ⟨i2, hj1, hy0, hy1, hy2⟩ := info_parts sl_info
      clear hAR HAR
      go_wp2
      generalize hRows : M.rel.map (fun r => ws.map fun v => pullL (nth r v) ws) = Rows
      have hRl : Rows.length = M.rel.length := by rw [← hRows]; simp
      have HRow : Hid (∀ k, k < M.rel.length → nth Rows k = ws.map fun v => pullL (nth (nth M.rel k) v) ws) := Lib.hid fun k hk => by rw [← hRows]; exact nth_mapZ _ _ hk
      go_loopw [7] (fun i wz => ∃ k : Nat, k ≤ M.rel.length ∧ i = .int .i64 (k : Int) ∧ ARR W0 w.heap.size ws.length L Rows k wz) (fun i _ => M.rel.length - (intOf i).toNat)
      case atStart => exact ⟨0, Nat.zero_le _, rfl, _, _, _, HA2.out⟩
      case round =>
        obtain ⟨k, hk, rfl, vv2, svs, vr, hAR⟩ := hrel
        have HAR := Lib.hid hAR
        by_cases hkl2 : k < M.rel.length
        · obtain ⟨b, off, a', c', rfl, hb, hc, hu⟩ := (HM.out.rel.ext (HV.out wr (.inr hAR.e))).get hkl2
          have hrl : (nth M.rel k).length = N := OK.out.row _ (by rw [nth_eq _ _ hkl2]; exact List.getElem_mem _)
          have HU := Lib.hid hu
          have hsz := hAR.out.lt
          have hrow := HRow.out k hkl2
          generalize hro : nth Rows k = row at hrow
          have hrowl : row.length = ws.length := by rw [hrow]; simp
          have HROW : Hid (∀ j, j < ws.length → nth row j = pullL (nth (nth M.rel k) (nth ws j)) ws) := Lib.hid fun j hj => by rw [hrow]; exact nth_mapZ _ _ hj
          have HWS : Hid (∀ w', Ext wr w' → RI w' wa (natI ws)) := Lib.hid fun w' e => (HW.out.ext (HV.out wr (.inr HAR.out.e))).ext e
          obtain ⟨m0, m1, m2⟩ := HBOX.out wr HAR.out.e
          dsimp only at m0 m1 m2
          clear hAR hu hrow
          go_wp2
          go_loopw [8, 9] (fun vl i wz => ∃ j : Nat, j ≤ ws.length ∧ i = .int .i64 (j : Int) ∧ GLE wr row j vl wz) (fun _ i _ => ws.length - (intOf i).toNat)
          case atStart => exact ⟨0, Nat.zero_le _, rfl, Ext.refl _, World.ownsRow_nil _ _ _ _⟩
          case round =>
            rename World => wz
            obtain ⟨j, hj, rfl, hGL⟩ := hrel
            have hGL : GL wr 63 uv (row.take j) u8 wz := hGL
            have HGL := Lib.hid hGL
            have hszz : wr.heap.size ≤ wz.heap.size := hGL.e.size
            by_cases hjl : j < ws.length
            · obtain ⟨bw, ow, rfl, hbw, hcw⟩ := (HWS.out wz hGL.e).get (k := j) (by simpa [natI] using hjl)
              rw [nth_natI hjl] at hcw
              have hwN := hlt j hjl
              obtain ⟨b2, off2, rfl, hb2, hc2⟩ := (HU.out.ext hGL.e).get (k := nth ws j) (by omega)
              have hin1 : (0 : Int) ≤ ((nth ws j : Nat) : Int) := by omega
              have hin2 : ((nth ws j : Nat) : Int) < ((nth M.rel k).length : Int) := by omega
              have htk : (row.take j).length = j := by rw [List.length_take]; omega
              have hx : nth row j = pullL (nth (nth M.rel k) (nth ws j)) ws := HROW.out j hjl
              have hone : row.take (j + 1) = row.take j ++ [pullL (nth (nth M.rel k) (nth ws j)) ws] := by
                rw [← hx, nth_eq _ _ (by omega), List.take_add_one, List.getElem?_eq_getElem (by omega)]; rfl
              have HONE1 := Lib.hid hone
              have HPA : Hid (∀ w', Ext wz w' → GL wr 63 uv (row.take j) u8 w') := Lib.hid fun w' e => HGL.out.ext' e
              have HONE : Hid (∀ u ∈ [Value.int .u64 (un (pullL (nth (nth M.rel k) (nth ws j)) ws))], u.oneCell' = true) := fun u hu => by
                rcases List.mem_singleton.1 hu with rfl
                rfl
              clear hGL hone hx
              obtain ⟨m0, m1, m2⟩ := HBOX.out wz (Below.trans HAR.out.e (Below.mono HGL.out.e (by have := HAR.out.out.lt; omega)))
              dsimp only at m0 m1 m2
              have hcz := HGL.out.e.cell hc
              go_wp2_with fail
              go_region_law (first | (refine step_append_lies _ (by rfl) _ _ 25 (by rfl) wr.heap.size 63 i0 _ 1 8 Tryz.underlying25 hi1 hz0 hz1 hz2 rfl (by decide) u8 (row.take j).length ((row.take j).map uv) (by rfl) (HPA.out _ ((Ext.refl _).drew.alloc _)).own ⟨wz.heap.size, 0, none⟩ 1 1 [.int .u64 (un (pullL (nth (nth M.rel k) (nth ws j)) ws))] (by rfl) (by rfl) (cell_one_new _ _ _) HONE.out (by decide) (by unfold maxLen; omega) (by omega) (by simp; omega) (wz.heap.size + 1) (by simp) ?_; intro gx cap w1 hown1 hgrow hat hlt2) | (refine step_go (by rfl) ?_; go_simp; refine (squeeze_any (nth (nth M.rel k) (nth ws j)) ws _ wc _ (HWS.out _ (by first | exact HGL.out.e | exact HGL.out.e.drew | exact HGL.out.e.drew.alloc _))).mono ?_; rintro _ _ ⟨rfl, rfl⟩; dsimp only))
              all_goals
                have hpush := (HPA.out _ ((Ext.refl _).drew.alloc _)).push (x := pullL (nth (nth M.rel k) (nth ws j)) ws) hown1 hgrow
                have HPU := Lib.hid hpush
                clear hpush hown1 hgrow hat
                go_wp2
                go_roundw
                case rel => exact ⟨j + 1, hjl, by go_num, by show GL _ _ _ (row.take (j + 1)) _ _; rw [HONE1.out]; rw [htk] at HPU; exact HPU.out⟩
                case measure => simp [intOf]; omega
            · obtain rfl : j = ws.length := by omega
              have hfull3 : row.take ws.length = row := List.take_of_length_le (by omega)
              rw [hfull3] at hGL
              obtain ⟨a3, c3, rfl, hu3⟩ := RU_of_OU (show OU wz wr.heap.size u8 row from hGL.own) (by omega)
              have hrow3 : OU wz (w.heap.size + 3) (.slice a3 ws.length c3) row := by
                have h := OU.mono (b' := w.heap.size + 3) (show OU wz wr.heap.size _ row from hGL.own) (by omega)
                rw [hrowl] at h; exact h
              have HAP := Lib.hid (HAR.out.apart (show OU wz wr.heap.size _ row from hGL.own))
              rw [hrowl] at HAP
              have HA3 := Lib.hid (HAR.out.ext' hGL.e)
              obtain ⟨m0, m1, m2⟩ := HBOX.out wz HA3.out.e
              dsimp only at m0 m1 m2
              obtain ⟨o0, o1, o2, ofz⟩ := HA3.out.out
              have hsz3 := HA3.out.out.lt
              have hfz := ofz 2
              have hrl2 : svs.length = k := by rw [HA3.out.rl, List.length_take]; omega
              have HPA : Hid (∀ o, AR W0 w.heap.size ws.length L svs (Rows.take k) vv2 vr (wz.alloc o)) := Lib.hid fun o => HA3.out.ext' ((Ext.refl wz).alloc o)
              have HR3 : Hid (∀ o, OU (wz.alloc o) (w.heap.size + 3) (.slice a3 ws.length c3) row) := Lib.hid fun o => hrow3.ext ((Ext.refl wz).alloc o)
              have HONE : Hid (∀ u ∈ [Value.slice a3 ws.length c3], u.oneCell' = true) := fun u hu => by
                rcases List.mem_singleton.1 hu with rfl
                rfl
              have hone : Rows.take (k + 1) = Rows.take k ++ [row] := by
                rw [← hro, nth_eq _ _ (by omega), List.take_add_one, List.getElem?_eq_getElem (by omega)]; rfl
              have HONE1 := Lib.hid hone
              clear hGL hu3 hrow3 hone HGL
              go_wp2_with (at_builtin; refine wpList_append_lies _ rfl _ _ 26 rfl (w.heap.size + 3) 25 i2 _ 1 24 Tryz.underlying26 hj1 hy0 hy1 hy2 rfl (by decide) vr svs.length svs rfl (HPA.out _).orr ⟨wz.heap.size, 0, none⟩ 1 1 [.slice a3 ws.length c3] rfl rfl (cell_one_new _ _ _) HONE.out (by decide) (by unfold maxLen; omega) (by omega) (by simp; omega) (wz.heap.size + 1) (by simp) ?_; intro gx cap W1 hown hgrow hat hlt2; obtain ⟨p0, p1, p2, pfz⟩ := (HPA.out _).outR hgrow; have pf := pfz 2; clear pfz; have hnew := (HPA.out _).pushR (HR3.out _) HAP.out hown hgrow; have HNEW := Lib.hid hnew; clear hnew hown hgrow hat)
              go_roundw
              case rel => exact ⟨k + 1, hkl2, by go_num, vv2, _, _, by rw [HONE1.out]; rw [hrl2] at HNEW; exact HNEW.out⟩
              case measure => simp [intOf]; omega
        · obtain rfl : k = M.rel.length := by omega
          have hfull2 : Rows.take M.rel.length = Rows := List.take_of_length_le (by omega)
          rw [hfull2] at hAR
          have HA4 := Lib.hid hAR
          obtain ⟨o0, o1, o2, ofz⟩ := hAR.out
          obtain ⟨m0, m1, m2⟩ := HBOX.out wr hAR.e
          dsimp only at m0 m1 m2
          have hh := HRES.out wr hAR.e
          have hew : Ext w wr := HV.out wr (.inr hAR.e)
          obtain ⟨v1, vc1, rfl, -⟩ := RU_of_OU (show OU wr (w.heap.size + 3) vv2 L from hAR.ov) (by omega)
          have hsl : svs.length = M.rel.length := by rw [hAR.rl]; exact hRl
          obtain ⟨r1, rc1, rfl⟩ : ∃ a c, vr = .slice a M.rel.length c := by
            rcases hAR.orr.2 with ⟨rfl, h0⟩ | ⟨g, cap, cur, rfl, _⟩
            · exact ⟨none, 0, by rw [← hsl, h0]⟩
            · exact ⟨some ⟨g, 0, none⟩, cap, by rw [hsl]⟩
          rw [hLl] at o1 HA4
          obtain ⟨r0, rr1, rr2, rfz⟩ := hh
          have f0 := rfz 0
          have f1 := rfz 1
          have f2 := rfz 2
          have hh : OutAt wr (w.heap.size + 1) (.int .i64 0) (.slice none 0 0) (.slice none 0 0) := ⟨r0, rr1, rr2, rfz⟩
          have HH := Lib.hid hh
          have HEW := Lib.hid hew
          have hrl4 := hAR.rl
          clear hAR ofz hh hew rfz
          go_wp2
          have hk2 : ∀ {T sz m : Nat} {v : Value} {xs : List Value}, wr.ownsRow (w.heap.size + 3) T sz v m xs → (((wr.setCell ⟨w.heap.size + 1, 0, none⟩ (.int .i64 (ws.length : Int))).setCell ⟨w.heap.size + 1, 1, none⟩ (.slice v1 M.val.length vc1)).setCell ⟨w.heap.size + 1, 2, none⟩ (.slice r1 M.rel.length rc1)).ownsRow (w.heap.size + 3) T sz v m xs := by
            intro T sz m v xs ho
            exact setOther (setOther (setOther ho (by omega)) (by omega)) (by omega)
          obtain ⟨d0, d1, d2, -⟩ := ((HH.out.set0 (.int .i64 (ws.length : Int))).set1 (.slice v1 M.val.length vc1)).set2 (.slice r1 M.rel.length rc1)
          have hEx : Ext w (((wr.setCell ⟨w.heap.size + 1, 0, none⟩ (.int .i64 (ws.length : Int))).setCell ⟨w.heap.size + 1, 1, none⟩ (.slice v1 M.val.length vc1)).setCell ⟨w.heap.size + 1, 2, none⟩ (.slice r1 M.rel.length rc1)) := ((HEW.out.setCell (by simp) _).setCell (by simp) _).setCell (by simp) _
          have hovF := hk2 HA4.out.ov
          have horF := hk2 HA4.out.orr
          have hrwF := fun j hj => hk2 (HA4.out.rw j hj)
          generalize ((wr.setCell ⟨w.heap.size + 1, 0, none⟩ (.int .i64 (ws.length : Int))).setCell ⟨w.heap.size + 1, 1, none⟩ (.slice v1 M.val.length vc1)).setCell ⟨w.heap.size + 1, 2, none⟩ (.slice r1 M.rel.length rc1) = W2 at *
          refine bodyPost_ret (v := .agg #[.int .i64 (ws.length : Int), .slice v1 M.val.length vc1, .slice r1 M.rel.length rc1]) ?_ rfl ?_
          · rw [results_cell_oneA rfl]
            go_simp
          · have hww : ∀ j, j < Rows.length → (nth Rows j).length ≤ 140737488355328 := fun j hj => by rw [HRow.out j (by omega)]; simp; omega
            have hdv := HA4.out.dv
            have hdj := HA4.out.dj
            have hF : FrM w.heap.size W2 v1 r1 vc1 rc1 (arrM M ws) svs := by
              have e1 : (arrM M ws).val = L := hL
              have e2 : (arrM M ws).rel = Rows := hRows
              refine ⟨?_, ?_, ?_, ?_, hdj, ?_, ?_⟩
              · rw [e1]; exact OU.mono (b' := w.heap.size) (show OU W2 (w.heap.size + 3) (.slice v1 L.length vc1) L by rw [hLl]; exact hovF) (by omega)
              · rw [e2, hRl]; exact own_mono horF (by omega)
              · rw [e2]; exact hrl4
              · rw [e2]; exact fun j hj => OU.mono (b' := w.heap.size) (show OU W2 (w.heap.size + 3) _ _ from hrwF j hj) (by omega)
              · rw [e1, hLl]; exact hdv
              · rw [e1, e2]; exact ⟨by omega, by omega, hww⟩
            exact ⟨v1, r1, vc1, rc1, svs, by simp [arrM], hF, hEx⟩

set_option maxRecDepth 20000 in
set_option maxHeartbeats 4000000 in
theorem r13Restrict_any (M : Mo) (va ra : Option Addr) (vc rc : Nat) (s : BitVec 64) (w : World) (hm : RM w va ra M) :
    Calls Tryz.prog 77 #[.agg #[.int .i64 M.worlds, .slice va M.val.length vc, .slice ra M.rel.length rc], .int .u64 (un s)] w fun e w' => RetRO (resM M s) (resL M s) (resErr M s) e w w' := by
  have hbx := MoBox.new w M.worlds M.val M.rel va vc ra rc 28
  have hE0 : Ext w ((w.alloc (.cells #[.int .i64 M.worlds, .slice va M.val.length vc, .slice ra M.rel.length rc] 28)).alloc (.cells #[.int .i64 0, .slice none 0 0, .slice none 0 0] 28)) := ((Ext.refl w).alloc _).alloc _
  have hbx0 := hbx.ext ((Ext.refl _).alloc (.cells #[.int .i64 0, .slice none 0 0, .slice none 0 0] 28))
  have hm0 := hm.ext hE0
  have HM0 := Lib.hid hm0
  obtain ⟨m0, m1, m2⟩ := hbx0
  dsimp only at m0 m1 m2
  have HE := Lib.hid hE0
  have HR := Lib.hid (OutAt.new1 w (.cells #[.int .i64 M.worlds, .slice va M.val.length vc, .slice ra M.rel.length rc] 28) (.int .i64 0) (.slice none 0 0) (.slice none 0 0) 28)
  clear hm hbx hE0
  by_cases hM : moCheck M = 0
  rotate_left
  · have hq : (moCheck M != 0) = true := by simpa using hM
    have hn : resErr M s = moCheck M := if_pos hM
    have hn2 : resM M s = ⟨0, [], []⟩ := if_neg (by rw [hn]; exact hM)
    have hn3 : resL M s = [] := if_neg (by rw [hn]; exact hM)
    clear hM
    have HN := Lib.hid hn
    have HN2 := Lib.hid hn2
    have HN3 := Lib.hid hn3
    clear hn hn2 hn3
    go_enter Tryz.func77, Tryz.ntmps77
    go_wp2_with ((go_at_call 75; refine (r13Check_any M va ra vc rc _ hm0).mono ?_; rintro e w1 ⟨rfl, hE1⟩; obtain ⟨r0, r1, r2, rfz⟩ := HR.out.ext hE1; have f0 := rfz 0; have f1 := rfz 1; have f2 := rfz 2; have HO : Hid (OutAt w1 _ _ _ _) := Lib.hid ⟨r0, r1, r2, rfz⟩; clear rfz; have q0 := hE1.cell m0; have q1 := hE1.cell m1; have q2 := hE1.cell m2; have HE1 := Lib.hid (HE.out.trans hE1)))
    obtain ⟨d0, d1, d2, -⟩ := ((HO.out.set0 (.int .i64 0)).set1 (.slice none 0 0)).set2 (.slice none 0 0)
    have hEx : Ext w (((w1.setCell ⟨w.heap.size + 1, 0, none⟩ (.int .i64 0)).setCell ⟨w.heap.size + 1, 1, none⟩ (.slice none 0 0)).setCell ⟨w.heap.size + 1, 2, none⟩ (.slice none 0 0)) := ((HE1.out.setCell (by simp) _).setCell (by simp) _).setCell (by simp) _
    generalize ((w1.setCell ⟨w.heap.size + 1, 0, none⟩ (.int .i64 0)).setCell ⟨w.heap.size + 1, 1, none⟩ (.slice none 0 0)).setCell ⟨w.heap.size + 1, 2, none⟩ (.slice none 0 0) = W2 at *
    refine bodyPost_ret (v := .tuple #[.agg #[(.int .i64 0), (.slice none 0 0), (.slice none 0 0)], .slice none 0 0, .int .i64 (moCheck M)]) ?_ rfl ?_
    · rw [results_cell_two rfl]
      go_simp
    · exact ⟨none, none, none, 0, 0, 0, [], by rw [HN.out, HN2.out, HN3.out]; rfl, by rw [HN2.out]; exact FrM.zero _ _ _, fun w'' _ => by rw [HN3.out]; exact RI.nil _ _, hEx⟩
  have hq : (moCheck M != 0) = false := by simp [hM]
  obtain ⟨N, ok⟩ := moCheck_ok hM
  have hNt : M.worlds.toNat = N := by rw [ok.worlds]; exact Int.toNat_natCast N
  have HALL : Hid (∀ w, Calls Tryz.prog 114 #[.int .i64 M.worlds] w fun e w' => e = .returned (.int .u64 (un (allW N))) ∧ w = w') := by rw [ok.worlds]; exact Lib.hid fun w => r13All_any N w
  by_cases hs : s &&& ~~~ allW N = 0#64
  rotate_left
  · have hq2 : (s &&& ~~~ allW N != 0#64) = true := by simpa using hs
    have hn : resErr M s = 2 := by unfold resErr; rw [if_neg (by simp [hM]), hNt, if_pos hs]
    have hn2 : resM M s = ⟨0, [], []⟩ := if_neg (by rw [hn]; decide)
    have hn3 : resL M s = [] := if_neg (by rw [hn]; decide)
    clear hs
    have HN := Lib.hid hn
    have HN2 := Lib.hid hn2
    have HN3 := Lib.hid hn3
    clear hn hn2 hn3
    go_enter Tryz.func77, Tryz.ntmps77
    go_wp2_with (first | (go_at_call 75; refine (r13Check_any M va ra vc rc _ hm0).mono ?_; rintro e w1 ⟨rfl, hE1⟩; obtain ⟨r0, r1, r2, rfz⟩ := HR.out.ext hE1; have f0 := rfz 0; have f1 := rfz 1; have f2 := rfz 2; have HO : Hid (OutAt w1 _ _ _ _) := Lib.hid ⟨r0, r1, r2, rfz⟩; clear rfz; have q0 := hE1.cell m0; have q1 := hE1.cell m1; have q2 := hE1.cell m2; have HE1 := Lib.hid (HE.out.trans hE1)) | (go_at_call 114; refine (HALL.out _).mono ?_; rintro _ _ ⟨rfl, rfl⟩))
    obtain ⟨d0, d1, d2, -⟩ := ((HO.out.set0 (.int .i64 0)).set1 (.slice none 0 0)).set2 (.slice none 0 0)
    have hEx : Ext w (((w1.setCell ⟨w.heap.size + 1, 0, none⟩ (.int .i64 0)).setCell ⟨w.heap.size + 1, 1, none⟩ (.slice none 0 0)).setCell ⟨w.heap.size + 1, 2, none⟩ (.slice none 0 0)) := ((HE1.out.setCell (by simp) _).setCell (by simp) _).setCell (by simp) _
    generalize ((w1.setCell ⟨w.heap.size + 1, 0, none⟩ (.int .i64 0)).setCell ⟨w.heap.size + 1, 1, none⟩ (.slice none 0 0)).setCell ⟨w.heap.size + 1, 2, none⟩ (.slice none 0 0) = W2 at *
    refine bodyPost_ret (v := .tuple #[.agg #[(.int .i64 0), (.slice none 0 0), (.slice none 0 0)], .slice none 0 0, .int .i64 2]) ?_ rfl ?_
    · rw [results_cell_two rfl]
      go_simp
    · exact ⟨none, none, none, 0, 0, 0, [], by rw [HN.out, HN2.out, HN3.out]; rfl, by rw [HN2.out]; exact FrM.zero _ _ _, fun w'' _ => by rw [HN3.out]; exact RI.nil _ _, hEx⟩
  have hq2 : (s &&& ~~~ allW N != 0#64) = false := by simp [hs]
  by_cases h0 : s = 0#64
  · have hq3 : (s == 0#64) = true := by simp [h0]
    have hn : resErr M s = 6 := by unfold resErr; rw [if_neg (by simp [hM]), hNt, if_neg (by simp [hs]), if_pos h0]
    have hn2 : resM M s = ⟨0, [], []⟩ := if_neg (by rw [hn]; decide)
    have hn3 : resL M s = [] := if_neg (by rw [hn]; decide)
    clear hs h0
    have HN := Lib.hid hn
    have HN2 := Lib.hid hn2
    have HN3 := Lib.hid hn3
    clear hn hn2 hn3
    go_enter Tryz.func77, Tryz.ntmps77
    go_wp2_with (first | (go_at_call 75; refine (r13Check_any M va ra vc rc _ hm0).mono ?_; rintro e w1 ⟨rfl, hE1⟩; obtain ⟨r0, r1, r2, rfz⟩ := HR.out.ext hE1; have f0 := rfz 0; have f1 := rfz 1; have f2 := rfz 2; have HO : Hid (OutAt w1 _ _ _ _) := Lib.hid ⟨r0, r1, r2, rfz⟩; clear rfz; have q0 := hE1.cell m0; have q1 := hE1.cell m1; have q2 := hE1.cell m2; have HE1 := Lib.hid (HE.out.trans hE1)) | (go_at_call 114; refine (HALL.out _).mono ?_; rintro _ _ ⟨rfl, rfl⟩))
    obtain ⟨d0, d1, d2, -⟩ := ((HO.out.set0 (.int .i64 0)).set1 (.slice none 0 0)).set2 (.slice none 0 0)
    have hEx : Ext w (((w1.setCell ⟨w.heap.size + 1, 0, none⟩ (.int .i64 0)).setCell ⟨w.heap.size + 1, 1, none⟩ (.slice none 0 0)).setCell ⟨w.heap.size + 1, 2, none⟩ (.slice none 0 0)) := ((HE1.out.setCell (by simp) _).setCell (by simp) _).setCell (by simp) _
    generalize ((w1.setCell ⟨w.heap.size + 1, 0, none⟩ (.int .i64 0)).setCell ⟨w.heap.size + 1, 1, none⟩ (.slice none 0 0)).setCell ⟨w.heap.size + 1, 2, none⟩ (.slice none 0 0) = W2 at *
    refine bodyPost_ret (v := .tuple #[.agg #[(.int .i64 0), (.slice none 0 0), (.slice none 0 0)], .slice none 0 0, .int .i64 6]) ?_ rfl ?_
    · rw [results_cell_two rfl]
      go_simp
    · exact ⟨none, none, none, 0, 0, 0, [], by rw [HN.out, HN2.out, HN3.out]; rfl, by rw [HN2.out]; exact FrM.zero _ _ _, fun w'' _ => by rw [HN3.out]; exact RI.nil _ _, hEx⟩
  · have hq3 : (s == 0#64) = false := by simpa using h0
    have hn : resErr M s = 0 := by unfold resErr; rw [if_neg (by simp [hM]), hNt, if_neg (by simp [hs]), if_neg h0]
    have hn2 : resM M s = arrM M (memL s) := if_pos hn
    have hn3 : resL M s = natI (memL s) := if_pos hn
    have HN := Lib.hid hn
    have HN2 := Lib.hid hn2
    have HN3 := Lib.hid hn3
    have hml := memL_len s
    have HLT : Hid (∀ i, i < (memL s).length → nth (memL s) i < N) := Lib.hid fun i hi => by
      have h := mem_memL.1 (show nth (memL s) i ∈ memL s by rw [nth_eq _ _ hi]; exact List.getElem_mem _)
      have h2 := andNot_zero.1 hs _ h.1 h.2
      rw [bt_allW] at h2; simp at h2; exact h2.2
    have hnl : (natI (memL s)).length = (memL s).length := by simp [natI]
    clear hn hn2 hn3 hs h0
    go_enter Tryz.func77, Tryz.ntmps77
    go_wp2_with (first | (go_at_call 75; refine (r13Check_any M va ra vc rc _ hm0).mono ?_; rintro e w1 ⟨rfl, hE1⟩; obtain ⟨r0, r1, r2, rfz⟩ := HR.out.ext hE1; have f0 := rfz 0; have f1 := rfz 1; have f2 := rfz 2; have HO : Hid (OutAt w1 _ _ _ _) := Lib.hid ⟨r0, r1, r2, rfz⟩; clear rfz; have q0 := hE1.cell m0; have q1 := hE1.cell m1; have q2 := hE1.cell m2; have HE1 := Lib.hid (HE.out.trans hE1)) | (go_at_call 114; refine (HALL.out _).mono ?_; rintro _ _ ⟨rfl, rfl⟩) | (go_at_call 115; refine (r13Members_any s _).mono ?_; rintro e w2 ⟨la, lc, rfl, hu2, hE2⟩; rw [hnl]; have HU2 := Lib.hid hu2; have hu2r := hu2 w2 (fun _ _ _ => rfl); obtain ⟨r0, r1, r2, rfz⟩ := HO.out.ext hE2; have f0 := rfz 0; have f1 := rfz 1; have f2 := rfz 2; clear rfz; have q0 := hE2.cell q0; have q1 := hE2.cell q1; have q2 := hE2.cell q2) | (go_at_call 116; refine (r13Take_any M va ra vc rc (memL s) la lc _ N ok (HM0.out.ext (hE1.trans hE2)) hu2r hml HLT.out).mono ?_; rintro e w3 ⟨va2, ra2, vc2, rc2, svs, rfl, hm3, hE3⟩; obtain ⟨r0, r1, r2, rfz⟩ := HO.out.ext (hE2.trans hE3); have f0 := rfz 0; have f1 := rfz 1; have f2 := rfz 2; have HO3 : Hid (OutAt w3 _ _ _ _) := Lib.hid ⟨r0, r1, r2, rfz⟩; clear rfz; have HM3 := Lib.hid hm3; have HB3 := Lib.hid hE3; have hw1s := hE1.size; have hw2s := hE2.size; have HE3 := Lib.hid (HE1.out.trans (hE2.trans hE3)); clear hm3 hu2 hu2r))
    simp at hw1s
    have hk3 : ∀ (u : Value) (k : Nat) (W : World), Agree (w.heap.size + 2) W (W.setCell ⟨w.heap.size + 1, k, none⟩ u) := fun u k W j hj _ => heap_setCell_other W ⟨w.heap.size + 1, k, none⟩ j u (by simp; omega)
    have hag : Agree (w.heap.size + 2) w3 (((w3.setCell ⟨w.heap.size + 1, 0, none⟩ (.int .i64 (arrM M (memL s)).worlds)).setCell ⟨w.heap.size + 1, 1, none⟩ (.slice va2 (arrM M (memL s)).val.length vc2)).setCell ⟨w.heap.size + 1, 2, none⟩ (.slice ra2 (arrM M (memL s)).rel.length rc2)) := fun j hj hl => ((hk3 _ _ _ j hj (by simpa [World.setCell] using hl)).trans (hk3 _ _ _ j hj (by simpa [World.setCell] using hl))).trans (hk3 _ _ _ j hj hl)
    have hsz : (((w3.setCell ⟨w.heap.size + 1, 0, none⟩ (.int .i64 (arrM M (memL s)).worlds)).setCell ⟨w.heap.size + 1, 1, none⟩ (.slice va2 (arrM M (memL s)).val.length vc2)).setCell ⟨w.heap.size + 1, 2, none⟩ (.slice ra2 (arrM M (memL s)).rel.length rc2)).heap.size = w3.heap.size := by simp
    obtain ⟨d0, d1, d2, -⟩ := ((HO3.out.set0 (.int .i64 (arrM M (memL s)).worlds)).set1 (.slice va2 (arrM M (memL s)).val.length vc2)).set2 (.slice ra2 (arrM M (memL s)).rel.length rc2)
    have hEx : Ext w (((w3.setCell ⟨w.heap.size + 1, 0, none⟩ (.int .i64 (arrM M (memL s)).worlds)).setCell ⟨w.heap.size + 1, 1, none⟩ (.slice va2 (arrM M (memL s)).val.length vc2)).setCell ⟨w.heap.size + 1, 2, none⟩ (.slice ra2 (arrM M (memL s)).rel.length rc2)) := ((HE3.out.setCell (by simp) _).setCell (by simp) _).setCell (by simp) _
    generalize ((w3.setCell ⟨w.heap.size + 1, 0, none⟩ (.int .i64 (arrM M (memL s)).worlds)).setCell ⟨w.heap.size + 1, 1, none⟩ (.slice va2 (arrM M (memL s)).val.length vc2)).setCell ⟨w.heap.size + 1, 2, none⟩ (.slice ra2 (arrM M (memL s)).rel.length rc2) = W2 at *
    refine bodyPost_ret (v := .tuple #[.agg #[(.int .i64 (arrM M (memL s)).worlds), (.slice va2 (arrM M (memL s)).val.length vc2), (.slice ra2 (arrM M (memL s)).rel.length rc2)], .slice la (memL s).length lc, .int .i64 0]) ?_ rfl ?_
    · rw [results_cell_two rfl]
      go_simp
    · refine ⟨va2, ra2, la, vc2, rc2, lc, svs, by rw [HN.out, HN2.out, HN3.out, hnl], ?_, fun w'' ha => ?_, hEx⟩
      · rw [HN2.out]
        refine FrM.mono (B := w.heap.size + 2) (HM3.out.mono (by omega) |>.agree hag) (by omega)
      · rw [HN3.out]
        refine HU2.out w'' fun j hj hl => ?_
        have hl3 : j < w3.heap.size := Nat.lt_of_lt_of_le hl HB3.out.size
        exact ((ha j (by omega) (by rw [hsz]; exact hl3)).trans (hag j (by omega) hl3)).trans (HB3.out.block j hl)

end Wt
