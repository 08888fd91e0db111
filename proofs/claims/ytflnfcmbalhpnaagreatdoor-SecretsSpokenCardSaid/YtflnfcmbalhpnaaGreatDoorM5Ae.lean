/- Walk: wittingref22.Build. -/
import Derived.Test.YtflnfcmbalhpnaaGreatDoorM5Ad
import Derived.Test.YtflnfcmbalhpnaaGreatDoorM4Bj
namespace Wt
open Go Go.RowKit Go.Maps Go.Proofs Fm

theorem limE_bad {n : Int} {f : List Nd} {seen : List (List (List Nd))} (h : limE seen ≠ 0) : limE seen = 8 ∧ obErr n f seen = 8 := by
  unfold limE at h ⊢
  by_cases h2 : 4 < seen.length ∨ ∃ l ∈ seen, 16 < l.length
  · rw [if_pos h2]; exact ⟨rfl, if_pos h2⟩
  · rw [if_neg h2] at h; exact absurd rfl h
theorem limE_ok {seen : List (List (List Nd))} (h : limE seen = 0) : ¬ (4 < seen.length ∨ ∃ l ∈ seen, 16 < l.length) := fun h2 => by
  unfold limE at h; rw [if_pos h2] at h; cases h
theorem memL_nil {t : BitVec 64} : (memL t).length = 0 ↔ t = 0#64 := by
  constructor
  · intro h
    have h0 : memL t = [] := List.eq_nil_of_length_eq_zero h
    apply BitVec.eq_of_getLsbD_eq
    intro i hi
    rw [BitVec.getLsbD_zero]
    cases hb : t.getLsbD i
    · rfl
    · have : i ∈ memL t := mem_memL.2 ⟨hi, hb⟩
      rw [h0] at this; cases this
  · rintro rfl; decide
theorem or_pow2 (x : BitVec 64) {k : Nat} : bits .or .u64 (un x) (IntKind.u64.wrap (2 ^ min k 64)) = un (x ||| 1#64 <<< k) := by
  have e := bv_shl_eq (s := 1#64) k
  rw [un_one, Int.one_mul] at e
  rw [e, bv_or]
theorem vaP_no {N : Nat} {st : List Nat} {k i : Nat} (h : (nth st k).testBit i = false) : vaP N st k (i + 1) = vaP N st k i := by
  refine nth_ext (by simp [vaP]) fun j hj => ?_
  rw [vaP_len] at hj
  rw [vaP_nth st _ _ hj, vaP_nth st _ _ hj]
  by_cases h1 : j < i
  · rw [if_pos h1, if_pos (show j < i + 1 by omega)]
  · by_cases h2 : j = i
    · subst h2
      rw [if_pos (show j < j + 1 by omega), if_neg (show ¬ j < j by omega)]
      show (if (nth st k).testBit j = true then _ else _) = _
      rw [h]; rfl
    · rw [if_neg (show ¬ j < i + 1 by omega), if_neg h1]
def rwP (st : List Nat) (ts : List (BitVec 64)) (x y : Nat) : List (BitVec 64) := (List.range st.length).map fun v => setTo (fun w => alikeT ts (nth st v) (nth st w)) (if v < x then st.length else if v = x then y else 0)
theorem rwP_len (st : List Nat) (ts : List (BitVec 64)) (x y : Nat) : (rwP st ts x y).length = st.length := by simp [rwP]
theorem rwP_nth {st : List Nat} (ts : List (BitVec 64)) (x y : Nat) {v : Nat} (h : v < st.length) : nth (rwP st ts x y) v = setTo (fun w => alikeT ts (nth st v) (nth st w)) (if v < x then st.length else if v = x then y else 0) := by
  unfold rwP; rw [nth_mapN _ _ (by simpa using h), nth_range h]
theorem rwP_zero (st : List Nat) (ts : List (BitVec 64)) : rwP st ts 0 0 = List.replicate st.length 0#64 := by
  refine nth_ext (by simp [rwP]) fun k hk => ?_
  rw [rwP_len] at hk
  rw [rwP_nth ts 0 0 hk, if_neg (by omega), show (if k = 0 then 0 else 0) = 0 by split <;> rfl, nth_eq (List.replicate st.length 0#64) k (by simpa using hk)]
  simp [setTo]
theorem rwP_next (st : List Nat) (ts : List (BitVec 64)) (x : Nat) : rwP st ts (x + 1) 0 = rwP st ts x st.length := by
  refine nth_ext (by simp [rwP]) fun v hv => ?_
  rw [rwP_len] at hv
  rw [rwP_nth ts _ _ hv, rwP_nth ts _ _ hv]
  rcases Nat.lt_trichotomy v x with h | h | h
  · rw [if_pos (show v < x + 1 by omega), if_pos h]
  · subst h; rw [if_pos (show v < v + 1 by omega), if_neg (show ¬ v < v by omega), if_pos rfl]
  · rw [if_neg (show ¬ v < x + 1 by omega), if_neg (show ¬ v < x by omega), if_neg (show ¬ v = x by omega)]
    by_cases h2 : v = x + 1
    · rw [if_pos h2]
    · rw [if_neg h2]
theorem rwP_full (st : List Nat) (ts : List (BitVec 64)) : rwP st ts st.length 0 = cellR st ts := by
  refine nth_ext (by rw [rwP_len, cellR_len]) fun v hv => ?_
  rw [rwP_len] at hv
  rw [rwP_nth ts _ _ hv, if_pos hv, cellR_nth ts hv]
theorem rwP_no {st : List Nat} {ts : List (BitVec 64)} {x y : Nat} (h : alikeT ts (nth st x) (nth st y) = false) : rwP st ts x (y + 1) = rwP st ts x y := by
  refine nth_ext (by simp [rwP]) fun v hv => ?_
  rw [rwP_len] at hv
  rw [rwP_nth ts _ _ hv, rwP_nth ts _ _ hv]
  by_cases h1 : v = x
  · subst h1
    rw [if_neg (show ¬ v < v by omega), if_pos rfl, if_neg (show ¬ v < v by omega), if_pos rfl]
    show (if alikeT ts (nth st v) (nth st y) = true then _ else _) = _
    rw [h]; rfl
  · rw [if_neg h1, if_neg h1]
theorem rwP_yes {st : List Nat} {ts : List (BitVec 64)} {x y : Nat} (hx : x < st.length) (h : alikeT ts (nth st x) (nth st y) = true) : rwP st ts x (y + 1) = (rwP st ts x y).set x (setTo (fun w => alikeT ts (nth st x) (nth st w)) y ||| 1#64 <<< y) := by
  refine nth_ext (by simp [rwP]) fun v hv => ?_
  rw [rwP_len] at hv
  by_cases h1 : v = x
  · subst h1
    rw [nth_setS _ (by rw [rwP_len]; exact hv), rwP_nth ts _ _ hv, if_neg (show ¬ v < v by omega), if_pos rfl]
    show (if alikeT ts (nth st v) (nth st y) = true then _ else _) = _
    rw [h]; rfl
  · rw [nth_setO _ h1, rwP_nth ts _ _ hv, rwP_nth ts _ _ hv, if_neg h1, if_neg h1]
def RwS (W0 : World) (g2 : Nat) (st : List Nat) (ts : List (BitVec 64)) (x y : Nat) (w : World) : Prop := Ext W0 w ∧ OG w W0.heap.size 85 uv g2 st.length st.length (rwP st ts x y)
theorem RwS.set {W0 w : World} {g2 : Nat} {st : List Nat} {ts : List (BitVec 64)} {x y : Nat} (h : RwS W0 g2 st ts x y w) (hx : x < st.length) (ha : alikeT ts (nth st x) (nth st y) = true) : RwS W0 g2 st ts x (y + 1) (w.setCell ⟨g2, x, none⟩ (.int .u64 (un (setTo (fun w => alikeT ts (nth st x) (nth st w)) y ||| 1#64 <<< y)))) := by
  refine ⟨h.1.setCell h.2.base_le _, ?_⟩
  rw [rwP_yes hx ha]
  exact h.2.set x _
theorem RwS.ext' {W0 w w' : World} {g2 : Nat} {st : List Nat} {ts : List (BitVec 64)} {x y : Nat} (h : RwS W0 g2 st ts x y w) (e : Ext w w') : RwS W0 g2 st ts x y w' := ⟨h.1.trans e, h.2.ext e⟩
theorem RwS.skip {W0 w : World} {g2 : Nat} {st : List Nat} {ts : List (BitVec 64)} {x y : Nat} (h : RwS W0 g2 st ts x y w) (ha : alikeT ts (nth st x) (nth st y) = false) (n : Nat) : RwS W0 g2 st ts x (y + 1) (w.drewN n) := by
  have h2 := h.ext' ((Ext.refl w).drewN n)
  unfold RwS at h2 ⊢
  rw [rwP_no ha]; exact h2
theorem br_new (wz : World) (N : Nat) (st : List Nat) (hN : N ≤ 6) : BR wz (wz.heap.size + 1) (st.length : Int) (vaP N st 0 0) (.slice (some ⟨wz.heap.size, 0, none⟩) N N) [] [] (.slice none 0 0) ((wz.alloc (.cells (madeCells #[.int .u64 0] N) 85)).alloc (.cells #[.int .i64 (st.length : Int), .slice (some ⟨wz.heap.size, 0, none⟩) N N, .slice none 0 0] 25)) := by
  refine ⟨((Ext.refl _).alloc _).alloc _, by omega, OutAt.new1 wz _ _ _ _ _, ?_, by simp [Value.ownBlock], rfl, World.ownsRow_nil _ _ _ _, fun j hj => absurd hj (by simp)⟩
  rw [vaP_zero]
  have h := (OG.made (enc := uv) (T := 85) wz N 0#64 (Nat.le_refl _) (by omega)).ext ((Ext.refl _).alloc (.cells #[.int .i64 (st.length : Int), .slice (some ⟨wz.heap.size, 0, none⟩) N N, .slice none 0 0] 25))
  unfold OU
  rw [List.length_replicate]
  exact h.row
set_option maxRecDepth 20000 in
set_option maxHeartbeats 8000000 in
theorem r22buildR_any (n : Int) (fa : Option Addr) (fc : Nat) (f : List Nd) (sa : Option Addr) (sc : Nat) (seen : List (List (List Nd))) (w : World) (hf : RN w fa f) (hs : RNNN w sa seen) :
    Calls Tryz.prog 57 #[.int .i64 n, .slice fa f.length fc, .slice sa seen.length sc] w fun e w' => RetR (obM n f seen) (natI (obS n f seen)) (obErr n f seen) e w w' := by
  have hE0 : Ext w (w.alloc (.cells #[.int .i64 0, .slice none 0 0, .slice none 0 0] 25)) := (Ext.refl w).alloc _
  have hO0 := OutAt.new w (.int .i64 0) (.slice none 0 0) (.slice none 0 0) 25
  have HE0 := Lib.hid hE0
  have HO := Lib.hid hO0
  have HEX := Lib.hid hE0
  have HS := Lib.hid (hs.ext hE0)
  have HC := Lib.hid (r22limits_any sa sc seen _ (hs.ext hE0))
  have HT := Lib.hid (r09Table_any fa fc f n _ (hf.ext hE0))
  have hsl := hs.len
  clear hs hf hE0 hO0
  by_cases hA : limE seen = 0
  rotate_left
  · obtain ⟨hl8, hn8⟩ := limE_bad (n := n) (f := f) hA
    have HLI := Lib.hid hl8
    have hn := hn8
    have hb := ob_bad (n := n) (f := f) (seen := seen) (by rw [hn]; decide)
    have HN := Lib.hid hn
    have HN2 := Lib.hid hb.1
    have HN3 := Lib.hid hb.2
    clear hn hb
    clear hA hl8 hn8
    have hrl := HO.out.lt
    obtain ⟨r0, r1, r2, rfz⟩ := HO.out
    have f0 := rfz 0
    have f1 := rfz 1
    have f2 := rfz 2
    clear rfz
    go_enter Tryz.func57, Tryz.ntmps57
    generalize hW0 : w.alloc (.cells #[.int .i64 0, .slice none 0 0, .slice none 0 0] 25) = W0 at *
    go_wp2_with ((go_at_call 86; refine (HC.out).mono ?_; rintro _ _ ⟨rfl, rfl⟩; rw [HLI.out]))
    obtain ⟨d0, d1, d2, -⟩ := ((HO.out.set0 (.int .i64 0)).set1 (.slice none 0 0)).set2 (.slice none 0 0)
    have hEx : Ext w (((W0.setCell ⟨w.heap.size, 0, none⟩ (.int .i64 0)).setCell ⟨w.heap.size, 1, none⟩ (.slice none 0 0)).setCell ⟨w.heap.size, 2, none⟩ (.slice none 0 0)) := ((HEX.out.setCell (by simp) _).setCell (by simp) _).setCell (by simp) _
    generalize ((W0.setCell ⟨w.heap.size, 0, none⟩ (.int .i64 0)).setCell ⟨w.heap.size, 1, none⟩ (.slice none 0 0)).setCell ⟨w.heap.size, 2, none⟩ (.slice none 0 0) = W2 at *
    refine bodyPost_ret (v := .tuple #[.agg #[(.int .i64 0), (.slice none 0 0), (.slice none 0 0)], .slice none 0 0, .int .i64 8]) ?_ rfl ?_
    · rw [results_cell_two rfl]
      go_simp
    · rw [HN2.out, HN3.out, HN.out]
      exact RetR.zero _ hEx
  have HLI := Lib.hid hA
  have HA := Lib.hid (limE_ok hA)
  have h4 : seen.length ≤ 4 := by have := HA.out; omega
  have H16 : Hid (∀ l ∈ seen, l.length ≤ 16) := Lib.hid fun l hl => by
    rcases Nat.lt_or_ge 16 l.length with h | h
    · exact absurd (.inr ⟨l, hl, h⟩) HA.out
    · exact h
  clear hA
  by_cases hT : tabErr f n = 0
  rotate_left
  · have hq : (tabErr f n != 0) = true := by simp [hT]
    have hn := obErr_law HA.out hT
    have hb := ob_bad (n := n) (f := f) (seen := seen) (by rw [hn]; exact hT)
    have HN := Lib.hid hn
    have HN2 := Lib.hid hb.1
    have HN3 := Lib.hid hb.2
    clear hn hb
    clear hT
    have HO0 := HO
    have HEX0 := HEX
    clear HO HEX
    go_enter Tryz.func57, Tryz.ntmps57
    generalize hW0 : w.alloc (.cells #[.int .i64 0, .slice none 0 0, .slice none 0 0] 25) = W0 at *
    go_wp2_with (first | (go_at_call 86; refine (HC.out).mono ?_; rintro _ _ ⟨rfl, rfl⟩; rw [HLI.out]) | (go_at_call 80; refine (HT.out).mono ?_; rintro e w1 ⟨rfl, hE1⟩; have HO := Lib.hid (HO0.out.ext hE1); have HEX := Lib.hid (HEX0.out.trans hE1); have hrl := HO.out.lt; obtain ⟨r0, r1, r2, rfz⟩ := HO.out; have f0 := rfz 0; have f1 := rfz 1; have f2 := rfz 2; clear rfz))
    obtain ⟨d0, d1, d2, -⟩ := ((HO.out.set0 (.int .i64 0)).set1 (.slice none 0 0)).set2 (.slice none 0 0)
    have hEx : Ext w (((w1.setCell ⟨w.heap.size, 0, none⟩ (.int .i64 0)).setCell ⟨w.heap.size, 1, none⟩ (.slice none 0 0)).setCell ⟨w.heap.size, 2, none⟩ (.slice none 0 0)) := ((HEX.out.setCell (by simp) _).setCell (by simp) _).setCell (by simp) _
    generalize ((w1.setCell ⟨w.heap.size, 0, none⟩ (.int .i64 0)).setCell ⟨w.heap.size, 1, none⟩ (.slice none 0 0)).setCell ⟨w.heap.size, 2, none⟩ (.slice none 0 0) = W2 at *
    refine bodyPost_ret (v := .tuple #[.agg #[(.int .i64 0), (.slice none 0 0), (.slice none 0 0)], .slice none 0 0, .int .i64 (tabErr f n)]) ?_ rfl ?_
    · rw [results_cell_two rfl]
      go_simp
    · rw [HN2.out, HN3.out, HN.out]
      exact RetR.zero _ hEx
  obtain ⟨i0, hi1, hz0, hz1, hz2⟩ := info_parts u64_info
  obtain ⟨i2, hj1, hy0, hy1, hy2⟩ := info_parts sl_info
  have HT0 := Lib.hid hT
  obtain ⟨_, _, hn0, hn6, _⟩ := tabErr_ok hT
  obtain ⟨N, rfl⟩ := Int.eq_ofNat_of_zero_le hn0
  have hN6 : N ≤ 6 := by omega
  have hN63 : N < 63 := by omega
  generalize hLT : seen.map (fun l => l.map fun g => tabOf g N) = LT
  have hLTl : LT.length = seen.length := by rw [← hLT]; simp
  have HLT : Hid (∀ a, a < seen.length → nth LT a = (nth seen a).map fun g => tabOf g N) := Lib.hid fun a ha => by rw [← hLT]; exact nth_mapN _ _ ha
  have HLTE := Lib.hid hLT
  have HLTL := Lib.hid hLTl
  clear hT hn0 hn6 hLT hLTl
  go_enter Tryz.func57, Tryz.ntmps57
  generalize hW0 : w.alloc (.cells #[.int .i64 0, .slice none 0 0, .slice none 0 0] 25) = W0 at *
  go_wp2_with (first | (go_at_call 86; refine (HC.out).mono ?_; rintro _ _ ⟨rfl, rfl⟩; rw [HLI.out]) | (go_at_call 80; refine (HT.out).mono ?_; rintro e w1 ⟨rfl, hE1⟩; rw [HT0.out]; have HO1 := Lib.hid (HO.out.ext hE1)))
  have hT0E : Hid (tabOf f N = tabOf f N) := Lib.hid rfl
  have HE1 := Lib.hid hE1
  have HS1 := Lib.hid (HS.out.ext hE1)
  generalize ht0 : tabOf f N = t0 at *
  have HT0E := Lib.hid ht0
  clear hE1 hT0E ht0 hW0 HO HEX
  go_loopw [12, 13] (fun v i wr => ∃ a : Nat, a ≤ seen.length ∧ i = .int .i64 (a : Int) ∧ (∃ svs, TL w1 (LT.take a) svs v wr) ∧ Hid (∀ i, i < a → tabsErr N (nth seen i) = 0)) (fun _ i _ => seen.length - (intOf i).toNat)
  case atStart => exact ⟨0, Nat.zero_le _, rfl, ⟨[], TL.nil w1 w1 (Ext.refl _)⟩, Lib.hid fun i hi => absurd hi (Nat.not_lt_zero _)⟩
  case round =>
    obtain ⟨a, ha, rfl, ⟨svs, hTL⟩, hok⟩ := hrel
    have HTL := Lib.hid hTL
    by_cases hal : a < seen.length
    · obtain ⟨b, off, a1, c1, rfl, hb0, hc0, hu⟩ := HS1.out.get a hal
      have hc := hTL.e.cell hc0
      have hb : b < wr.heap.size := Nat.lt_of_lt_of_le hb0 hTL.e.size
      have h16a := H16.out _ (nth_mem hal)
      have HTB := Lib.hid (r22tables_any (N : Int) a1 c1 (nth seen a) wr (hu.ext hTL.e) (by omega))
      have hrow : nth LT a = (nth seen a).map fun g => tabOf g N := HLT.out a hal
      have hszr : w1.heap.size ≤ wr.heap.size := hTL.e.size
      have hsl2 : svs.length = a := by rw [hTL.len, List.length_take, HLTL.out]; omega
      have HSL := Lib.hid hsl2
      by_cases hTa : tabsErr N (nth seen a) = 0
      · have HTA := Lib.hid hTa
        have htl : tabsL N (nth seen a) = nth LT a := by unfold tabsL; rw [if_pos hTa, hrow]
        rw [htl] at HTB
        have hone : LT.take (a + 1) = LT.take a ++ [nth LT a] := by
          rw [nth_eq _ _ (by rw [HLTL.out]; exact hal), List.take_add_one, List.getElem?_eq_getElem (by rw [HLTL.out]; exact hal)]; rfl
        have HONE1 := Lib.hid hone
        have HRL : Hid ((nth LT a).length ≤ 1000) := Lib.hid (by rw [hrow, List.length_map]; omega)
        have HPA : Hid (∀ W o, Ext wr W → TL w1 (LT.take a) svs u12 (W.alloc o)) := Lib.hid fun W o hW => HTL.out.ext' (hW.alloc o)
        have HOW : Hid (∀ W o, Ext wr W → (W.alloc o).ownsRow w1.heap.size 22 1 u12 a svs) := Lib.hid fun W o hW => by
          have h := (HPA.out W o hW).own
          rw [HSL.out] at h; exact h
        clear hTL hu hc0 hb0 hTa htl hrow hone hsl2
        go_wp2_with (first | (go_at_call 87; refine HTB.out.mono ?_; rintro _ w2 ⟨⟨v5, rfl, hou⟩, hE2⟩; obtain ⟨a5, c5, rfl, -⟩ := RU_of_OU hou (by have := HRL.out; omega); rw [HTA.out]; have HOU5 := Lib.hid hou; have HE2 := Lib.hid hE2; have hsz2 : w1.heap.size ≤ w2.heap.size := Nat.le_trans hszr hE2.size; clear hou hE2) | (at_builtin; refine wpList_append_lies _ rfl _ _ 23 rfl w1.heap.size 22 i2 _ 1 24 Tryz.underlying23 hj1 hy0 hy1 hy2 rfl (by decide) u12 a svs rfl (HOW.out _ _ HE2.out) ⟨w2.heap.size, 0, none⟩ 1 1 [.slice a5 (nth LT a).length c5] rfl rfl (cell_one_new _ _ _) (one_ou HOU5.out) (by decide) (by unfold maxLen; omega) (by omega) (Nat.le_trans hsz2 (by simp)) (w2.heap.size + 1) (by simp) ?_; intro gx cap W1 hown hgrow hat hlt2; have hpush := (HPA.out _ _ HE2.out).push (OU.mono (OU.ext HOU5.out ((Ext.refl _).alloc _)) hszr) (by rw [HSL.out]; exact hown) hgrow; have HPU := Lib.hid hpush; clear hpush hown hgrow hat))
        go_roundw
        case rel => exact ⟨a + 1, hal, by go_num, ⟨_, by rw [HONE1.out]; exact HPU.out⟩, lt_step hok HTA.out⟩
        case measure => simp [intOf]; omega
      · have hq : (tabsErr N (nth seen a) != 0) = true := by simp [hTa]
        have e2 := seenErr_at hal hok.out hTa
        have hnn := obErr_seen HA.out HT0.out (by rw [e2]; exact hTa)
        rw [e2] at hnn
        have htl : tabsL N (nth seen a) = [] := by unfold tabsL; rw [if_neg hTa]
        rw [htl] at HTB
        have hbd := ob_bad (n := (N : Int)) (f := f) (seen := seen) (by rw [hnn]; exact hTa)
        have HN := Lib.hid hnn
        have HN2 := Lib.hid hbd.1
        have HN3 := Lib.hid hbd.2
        have HOr := Lib.hid (HO1.out.ext hTL.e)
        have HEr := Lib.hid (HE0.out.trans (HE1.out.trans hTL.e))
        clear hTL hu hc0 hb0 hTa htl hrow hsl2 e2 hnn hbd
        go_wp2_with (go_at_call 87; refine HTB.out.mono ?_; rintro _ w2 ⟨⟨v5, rfl, hou⟩, hE2⟩; obtain ⟨a5, c5, rfl, -⟩ := RU_of_OU hou (by simp); have HO := Lib.hid (HOr.out.ext hE2); have HEX := Lib.hid (HEr.out.trans hE2); have hrl := HO.out.lt; obtain ⟨r0, r1, r2, rfz⟩ := HO.out; have f0 := rfz 0; have f1 := rfz 1; have f2 := rfz 2; clear rfz)
        obtain ⟨d0, d1, d2, -⟩ := ((HO.out.set0 (.int .i64 0)).set1 (.slice none 0 0)).set2 (.slice none 0 0)
        have hEx : Ext w (((w2.setCell ⟨w.heap.size, 0, none⟩ (.int .i64 0)).setCell ⟨w.heap.size, 1, none⟩ (.slice none 0 0)).setCell ⟨w.heap.size, 2, none⟩ (.slice none 0 0)) := ((HEX.out.setCell (by simp) _).setCell (by simp) _).setCell (by simp) _
        generalize ((w2.setCell ⟨w.heap.size, 0, none⟩ (.int .i64 0)).setCell ⟨w.heap.size, 1, none⟩ (.slice none 0 0)).setCell ⟨w.heap.size, 2, none⟩ (.slice none 0 0) = W2 at *
        refine bodyPost_ret (v := .tuple #[.agg #[(.int .i64 0), (.slice none 0 0), (.slice none 0 0)], .slice none 0 0, .int .i64 (tabsErr N (nth seen a))]) ?_ rfl ?_
        · rw [results_cell_two rfl]
          go_simp
        · rw [HN2.out, HN3.out, HN.out]
          exact RetR.zero _ hEx
    · obtain rfl : a = seen.length := by omega
      have hfull : LT.take seen.length = LT := by rw [← HLTL.out]; exact List.take_length
      rw [hfull] at HTL
      have hse := seenErr_none hok.out
      have HSE := Lib.hid hse
      clear hTL hok hse hfull
      have hMM : Hid (Calls Tryz.prog 88 #[.int .u64 (un t0)] wr fun e w' => RetI (natI (memL t0)) e wr w') := Lib.hid (r01Members_any t0 wr)
      have hnl : (natI (memL t0)).length = (memL t0).length := natI_len _
      have HNL := Lib.hid hnl
      clear hnl
      by_cases ht : t0 = 0#64
      · have hm0 : (((memL t0).length : Int) == 0) = true := by rw [beq_iff_eq]; have := memL_nil.2 ht; omega
        have hnn := obErr_false HA.out HT0.out HSE.out (HT0E.out.trans ht)
        have hbd := ob_bad (n := (N : Int)) (f := f) (seen := seen) (by rw [hnn]; decide)
        have HN := Lib.hid hnn
        have HN2 := Lib.hid hbd.1
        have HN3 := Lib.hid hbd.2
        have HOr := Lib.hid (HO1.out.ext HTL.out.e)
        have HEr := Lib.hid (HE0.out.trans (HE1.out.trans HTL.out.e))
        clear hnn hbd ht
        go_wp2_with (go_at_call 88; refine hMM.out.mono ?_; rintro _ w2 ⟨la, lc, rfl, hri, hE2⟩; rw [HNL.out]; have HO := Lib.hid (HOr.out.ext hE2); have HEX := Lib.hid (HEr.out.trans hE2); have hrl := HO.out.lt; obtain ⟨r0, r1, r2, rfz⟩ := HO.out; have f0 := rfz 0; have f1 := rfz 1; have f2 := rfz 2; clear rfz hri hE2)
        obtain ⟨d0, d1, d2, -⟩ := ((HO.out.set0 (.int .i64 0)).set1 (.slice none 0 0)).set2 (.slice none 0 0)
        have hEx : Ext w (((w2.setCell ⟨w.heap.size, 0, none⟩ (.int .i64 0)).setCell ⟨w.heap.size, 1, none⟩ (.slice none 0 0)).setCell ⟨w.heap.size, 2, none⟩ (.slice none 0 0)) := ((HEX.out.setCell (by simp) _).setCell (by simp) _).setCell (by simp) _
        generalize ((w2.setCell ⟨w.heap.size, 0, none⟩ (.int .i64 0)).setCell ⟨w.heap.size, 1, none⟩ (.slice none 0 0)).setCell ⟨w.heap.size, 2, none⟩ (.slice none 0 0) = W2 at *
        refine bodyPost_ret (v := .tuple #[.agg #[(.int .i64 0), (.slice none 0 0), (.slice none 0 0)], .slice none 0 0, .int .i64 11]) ?_ rfl ?_
        · rw [results_cell_two rfl]
          go_simp
        · rw [HN2.out, HN3.out, HN.out]
          exact RetR.zero _ hEx
      · have hm0 : (((memL t0).length : Int) == 0) = false := by
          rw [beq_eq_false_iff_ne]
          intro h
          exact ht (memL_nil.1 (by omega))
        have hno := obErr_none HA.out HT0.out HSE.out (by rw [HT0E.out]; exact ht)
        have HN := Lib.hid hno
        have hst : obS N f seen = memL t0 := by
          have e : obS (N : Int) f seen = memL (tabOf f N) := if_pos hno
          rw [e, HT0E.out]
        have HST := Lib.hid hst
        have hml := memL_len t0
        have HSTL : Hid (∀ k, k < (memL t0).length → nth (memL t0) k < 64) := Lib.hid fun k hk => (mem_memL.1 (nth_mem hk)).1
        have mk1 := fun (w : World) => run_make_row' (P := Tryz.prog) 22 85 (.int .u64 0) 8 Tryz.underlying22 u64_info rfl .i64 .i64 N (by omega) (by omega) w
        clear hno hst ht
        generalize memL t0 = st at *
        go_wp2_with (go_at_call 88; refine hMM.out.mono ?_; rintro _ wz ⟨la, lc, rfl, hri, hE2⟩; rw [HNL.out]; have HRI2 := Lib.hid hri; have HEz := Lib.hid (HE0.out.trans (HE1.out.trans (HTL.out.e.trans hE2))); have HOz := Lib.hid (HO1.out.ext (HTL.out.e.trans hE2)); have HTz := Lib.hid (HTL.out.ext' hE2); have hBR : BR wz (wz.heap.size + 1) (st.length : Int) (vaP N st 0 0) (.slice (some ⟨wz.heap.size, 0, none⟩) N N) [] [] (.slice none 0 0) ((wz.alloc (.cells (madeCells #[.int .u64 0] N) 85)).alloc (.cells #[.int .i64 (st.length : Int), .slice (some ⟨wz.heap.size, 0, none⟩) N N, .slice none 0 0] 25)) := br_new wz N st hN6; have HBR := Lib.hid hBR; clear hBR hri hE2)
        clear mk1
        generalize hgz : wz.heap.size = g at *
        have HGZ := Lib.hid hgz
        clear hgz
        generalize (wz.alloc (.cells (madeCells #[.int .u64 0] N) 85)).alloc (.cells #[.int .i64 (st.length : Int), .slice (some ⟨g, 0, none⟩) N N, .slice none 0 0] 25) = wB at *
        have hRI : RI wz la (natI st) := HRI2.out wz fun k _ _ => rfl
        have HRI := Lib.hid hRI
        clear hRI
        go_loopw [18] (fun i wr => ∃ k : Nat, k ≤ st.length ∧ i = .int .i64 (k : Int) ∧ BR wz (g + 1) (st.length : Int) (vaP N st k 0) (.slice (some ⟨g, 0, none⟩) N N) [] [] (.slice none 0 0) wr) (fun i _ => st.length - (intOf i).toNat)
        case atStart => exact ⟨0, Nat.zero_le _, rfl, HBR.out⟩
        case round =>
          rename World => wv
          obtain ⟨k, hk, rfl, hB⟩ := hrel
          have HBk := Lib.hid hB
          by_cases hks : k < st.length
          · have hv63 : nth st k < 9223372036854775808 := by have := HSTL.out k hks; omega
            have hk64 : k < 64 := by omega
            clear hB
            go_wp2_with fail
            go_loopw [19] (fun i wy => ∃ j : Nat, j ≤ N ∧ i = .int .i64 (j : Int) ∧ BR wz (g + 1) (st.length : Int) (vaP N st k j) (.slice (some ⟨g, 0, none⟩) N N) [] [] (.slice none 0 0) wy) (fun i _ => N - (intOf i).toNat)
            case atStart => exact ⟨0, Nat.zero_le _, rfl, HBk.out⟩
            case round =>
              rename World => wy
              obtain ⟨j, hj, rfl, hB⟩ := hrel
              have HBj := Lib.hid hB
              by_cases hjl : j < N
              · obtain ⟨bs, os, rfl, hbs, hcs⟩ := (HRI.out.ext hB.e).get (k := k) (by rw [natI_len]; exact hks)
                rw [nth_natI hks] at hcs
                cases hbt : (nth st k).testBit j
                · have hb0 : b01 (nth st k) j = 0 := by simp [b01, hbt]
                  have HNO := Lib.hid (vaP_no (N := N) hbt)
                  clear hB hbt
                  generalize nth st k = v at *
                  go_wp2
                  go_roundw
                  case rel => exact ⟨j + 1, hjl, by go_num, by rw [HNO.out]; exact HBj.out⟩
                  case measure => simp [intOf]; omega
                · have hb0 : b01 (nth st k) j = 1 := by simp [b01, hbt]
                  have hset := vaP_set st k hjl
                  obtain ⟨y1, y2, y3, hnext⟩ := hB.setV (vaP_len N st k j) (by omega) hjl (setTo (fun w => (nth st w).testBit j) (k + 1))
                  rw [hset] at hnext
                  rw [vaP_nth st k j hjl, if_neg (by omega)] at y3
                  obtain ⟨o0, o1, o2, -⟩ := hB.out
                  have hol := hB.out.lt
                  have hss2 : setTo (fun w => (nth st w).testBit j) (k + 1) = setTo (fun w => (nth st w).testBit j) k ||| 1#64 <<< k := by
                    show (if (nth st k).testBit j = true then _ else _) = _
                    rw [hbt]; rfl
                  rw [hss2] at hnext
                  generalize setTo (fun w => (nth st w).testBit j) k = x at *
                  have HNX := Lib.hid hnext
                  have HW1 := Lib.hid (or_pow2 x (k := k))
                  clear hnext hB hset hss2 hbt
                  generalize nth st k = v at *
                  go_wp2_with fail
                  refine wp_region_still_tail 13 (by kernel_rfl) (by kernel_rfl) ?_
                  simp only [List.take_succ_cons, List.take_zero, List.drop_succ_cons, List.drop_zero]
                  repeat still_step
                  refine wpStill_nil ?_
                  have y2' : wy.drew.frozen? ⟨g, j, none⟩ = false := y2
                  have y3' : wy.drew.cell? ⟨g, j, none⟩ = some (.int .u64 (un x)) := y3
                  change wpList _ _ _ _ _ wy.drew
                  go_wp2
                  go_roundw
                  case rel => exact ⟨j + 1, hjl, by go_num, by have h := HNX.out; rw [← HW1.out] at h; exact h.ext' (Ext.refl _).drew⟩
                  case measure => simp [intOf]; omega
              · obtain rfl : j = N := by omega
                have HBN := Lib.hid hB
                rw [← vaP_next] at HBN
                clear hB
                go_wp2
                go_roundw
                case rel => exact ⟨k + 1, hks, by go_num, HBN.out⟩
                case measure => simp [intOf]; omega
          · obtain rfl : k = st.length := by omega
            rw [vaP_all] at hB
            have HB2 := Lib.hid hB
            have hLT16 : ∀ j, j < LT.length → (nth LT j).length ≤ 16 := fun j hj => by
              rw [HLTL.out] at hj
              rw [HLT.out j hj, List.length_map]
              exact H16.out _ (nth_mem hj)
            obtain ⟨ta, tc, rfl, hRR⟩ := HTz.out.rr (by rw [HLTL.out]; omega) (fun j hj => by have := hLT16 j hj; omega)
            have HRR := Lib.hid hRR
            generalize hLR : LT.map (fun ts => cellR st ts) = LR
            have hLRl : LR.length = LT.length := by rw [← hLR]; simp
            have HLR : Hid (∀ a, a < LT.length → nth LR a = cellR st (nth LT a)) := Lib.hid fun a ha => by rw [← hLR]; exact nth_mapN _ _ ha
            have HLRE := Lib.hid hLR
            have HLRL := Lib.hid hLRl
            clear hRR hLR hLRl hLT16 hB HBk
            have mk2 := fun (w : World) => run_make_row' (P := Tryz.prog) 22 85 (.int .u64 0) 8 Tryz.underlying22 u64_info rfl .i64 .i64 st.length (by omega) (by omega) w
            have HMK := Lib.hid mk2
            clear mk2
            go_wp2_with fail
            go_loopw [20] (fun i wy => ∃ a : Nat, a ≤ seen.length ∧ i = .int .i64 (a : Int) ∧ ∃ svs vr, BR wz (g + 1) (st.length : Int) (valR N st) (.slice (some ⟨g, 0, none⟩) N N) (LR.take a) svs vr wy) (fun i _ => seen.length - (intOf i).toNat)
            case atStart => exact ⟨0, Nat.zero_le _, rfl, [], _, HB2.out⟩
            case round =>
              rename World => wy
              obtain ⟨a, ha, rfl, svs, vr, hB⟩ := hrel
              have HB := Lib.hid hB
              by_cases hal : a < seen.length
              · have haL : a < LT.length := by rw [HLTL.out]; exact hal
                have hEy := hB.e
                have HEY := Lib.hid hEy
                have mk2 := HMK.out
                have hR0 : RwS wy wy.heap.size st (nth LT a) 0 0 (wy.alloc (.cells (madeCells #[.int .u64 0] st.length) 85)) := by
                  refine ⟨(Ext.refl _).alloc _, ?_⟩
                  rw [rwP_zero]
                  exact OG.made (enc := uv) (T := 85) wy st.length 0#64 (Nat.le_refl _) (by omega)
                have HR0 := Lib.hid hR0
                clear hB hR0 hEy
                go_wp2_with fail
                clear mk2
                generalize hg2 : wy.heap.size = g2 at *
                have HG2 := Lib.hid hg2
                clear hg2
                generalize wy.alloc (.cells (madeCells #[.int .u64 0] st.length) 85) = wx at *
                go_loopw [22] (fun i wq => ∃ x : Nat, x ≤ st.length ∧ i = .int .i64 (x : Int) ∧ RwS wy g2 st (nth LT a) x 0 wq) (fun i _ => st.length - (intOf i).toNat)
                case atStart => exact ⟨0, Nat.zero_le _, rfl, HR0.out⟩
                case round =>
                  rename World => wq
                  obtain ⟨x, hx, rfl, hQ⟩ := hrel
                  have HQ := Lib.hid hQ
                  by_cases hxl : x < st.length
                  · clear hQ
                    go_wp2_with fail
                    go_loopw [23] (fun i wp => ∃ y : Nat, y ≤ st.length ∧ i = .int .i64 (y : Int) ∧ RwS wy g2 st (nth LT a) x y wp) (fun i _ => st.length - (intOf i).toNat)
                    case atStart => exact ⟨0, Nat.zero_le _, rfl, HQ.out⟩
                    case round =>
                      rename World => wp
                      obtain ⟨y, hy, rfl, hP⟩ := hrel
                      have HP := Lib.hid hP
                      by_cases hyl : y < st.length
                      · have hEp := HEY.out.trans hP.1
                        obtain ⟨b3, off3, a3, c3, rfl, hb3, hc3, hu3⟩ := (HRR.out.ext hEp).get haL
                        obtain ⟨b4, off4, rfl, hb4, hc4⟩ := (HRI.out.ext hEp).get (k := x) (by rw [natI_len]; exact hxl)
                        obtain ⟨b5, off5, he5, hb5, hc5⟩ := (HRI.out.ext hEp).get (k := y) (by rw [natI_len]; exact hyl)
                        simp only [Option.some.injEq, Addr.mk.injEq] at he5
                        obtain ⟨rfl, rfl, -⟩ := he5
                        rw [nth_natI hxl] at hc4
                        rw [nth_natI hyl] at hc5
                        have HU3 := Lib.hid hu3
                        have hIa : (a : Int) < (LT.length : Int) := by omega
                        have hy64 : y < 64 := by omega
                        cases hak : alikeT (nth LT a) (nth st x) (nth st y)
                        · have HAK := Lib.hid hak
                          clear hP hEp hu3
                          go_wp2_with fail
                          go_quiet ((go_at_call 89; exact Calls.quiet_of (r22alike_any _ _ _ _ _ _ (HU3.out.ext ((Ext.refl _).drewN _)))))
                          rw [hak]
                          go_wp2
                          go_roundw
                          case rel => exact ⟨y + 1, hyl, by go_num, HP.out.skip HAK.out _⟩
                          case measure => simp [intOf]; omega
                        · have HSET : Hid (∀ n, RwS wy g2 st (nth LT a) x (y + 1) ((wp.drewN n).setCell ⟨g2, x, none⟩ (.int .u64 (un (setTo (fun w => alikeT (nth LT a) (nth st x) (nth st w)) y ||| 1#64 <<< y))))) := Lib.hid fun n => RwS.set (HP.out.ext' ((Ext.refl wp).drewN n)) hxl hak
                          have hpc := hP.2.cell hxl
                          rw [rwP_nth _ _ _ hxl, if_neg (by omega), if_pos rfl] at hpc
                          have hpc2 : wp.cell? ⟨g2, x, none⟩ = some (.int .u64 (un (setTo (fun w => alikeT (nth LT a) (nth st x) (nth st w)) y))) := hpc
                          have hpf := hP.2.frozen x
                          have hpl := hP.2.lt
                          generalize setTo (fun w => alikeT (nth LT a) (nth st x) (nth st w)) y = z at *
                          clear hP hEp hu3 hpc
                          go_wp2_with fail
                          go_quiet ((go_at_call 89; exact Calls.quiet_of (r22alike_any _ _ _ _ _ _ (HU3.out.ext ((Ext.refl _).drewN _)))))
                          rw [hak]
                          go_wp2
                          go_roundw
                          case rel => exact ⟨y + 1, hyl, by go_num, HSET.out _⟩
                          case measure => simp [intOf]; omega
                      · obtain rfl : y = st.length := by omega
                        have hP2 : RwS wy g2 st (nth LT a) (x + 1) 0 wp := by
                          have h := HP.out
                          unfold RwS at h ⊢
                          rw [rwP_next]; exact h
                        have HP2 := Lib.hid hP2
                        clear hP hP2
                        go_wp2
                        go_roundw
                        case rel => exact ⟨x + 1, hxl, by go_num, HP2.out⟩
                        case measure => simp [intOf]; omega
                  · obtain rfl : x = st.length := by omega
                    have hou : OU wq g2 (.slice (some ⟨g2, 0, none⟩) st.length st.length) (cellR st (nth LT a)) := by
                      have h := HQ.out.2.row
                      rw [rwP_full, HG2.out] at h
                      unfold OU
                      rw [cellR_len]; exact h
                    have hB2 := HB.out.ext' hQ.1
                    have hgo : g + 2 ≤ g2 := by have := HB.out.out.lt; rw [HG2.out] at this; omega
                    obtain ⟨o0, o1, o2, ofz⟩ := hB2.out
                    have hol := hB2.out.lt
                    have hfz := ofz 2
                    have hsl : svs.length = a := by rw [hB2.rl, List.length_take, HLRL.out]; omega
                    have HSL := Lib.hid hsl
                    have HPA : Hid (∀ o, BR wz (g + 1) (st.length : Int) (valR N st) (.slice (some ⟨g, 0, none⟩) N N) (LR.take a) svs vr (wq.alloc o)) := Lib.hid fun o => hB2.ext' ((Ext.refl wq).alloc o)
                    have HR3 : Hid (∀ o, OU (wq.alloc o) (g + 1 + 1) (.slice (some ⟨g2, 0, none⟩) st.length st.length) (cellR st (nth LT a))) := Lib.hid fun o => OU.ext (OU.mono hou (by omega)) ((Ext.refl wq).alloc o)
                    have HONE : Hid (∀ u ∈ [Value.slice (some ⟨g2, 0, none⟩) st.length st.length], u.oneCell' = true) := Lib.hid fun u hu => by rw [List.mem_singleton.1 hu]; rfl
                    have HOW : Hid (∀ o, (wq.alloc o).ownsRow (g + 1 + 1) 22 1 vr a svs) := Lib.hid fun o => by
                      have h := (HPA.out o).orr
                      rw [HSL.out] at h; exact h
                    have hone : LR.take (a + 1) = LR.take a ++ [cellR st (nth LT a)] := by
                      rw [← HLR.out a haL, nth_eq _ _ (by rw [HLRL.out]; exact haL), List.take_add_one, List.getElem?_eq_getElem (by rw [HLRL.out]; exact haL)]; rfl
                    have HONE1 := Lib.hid hone
                    clear hQ HQ hou hB2 hone hsl ofz
                    go_wp2_with (at_builtin; refine wpList_append_lies _ rfl _ _ 23 rfl (g + 1 + 1) 22 i2 _ 1 24 Tryz.underlying23 hj1 hy0 hy1 hy2 rfl (by decide) vr a svs rfl (HOW.out _) ⟨wq.heap.size, 0, none⟩ 1 1 [.slice (some ⟨g2, 0, none⟩) st.length st.length] rfl rfl (cell_one_new _ _ _) HONE.out (by decide) (by unfold maxLen; omega) (by omega) (by simp; omega) (wq.heap.size + 1) (by simp) ?_; intro gx cap W1 hown hgrow hat hlt2; obtain ⟨p0, p1, p2, pfz⟩ := (HPA.out _).outR hgrow; have pf := pfz 2; clear pfz; have hnew := (HPA.out _).push (HR3.out _) (by rw [HSL.out]; exact hown) hgrow; have HNEW := Lib.hid hnew; clear hnew hown hgrow hat)
                    go_roundw
                    case rel => exact ⟨a + 1, hal, by go_num, _, _, by rw [HONE1.out]; exact HNEW.out⟩
                    case measure => simp [intOf]; omega
              · obtain rfl : a = seen.length := by omega
                have hfullQ : LR.take seen.length = LR := by rw [← HLTL.out, ← HLRL.out]; exact List.take_length
                rw [hfullQ] at hB
                obtain ⟨va5, vc5, ra5, rc5, hv5, rfl, hrm5⟩ := hB.rm3 (b := w.heap.size) HOz.out.lt (by rw [HLRL.out, HLTL.out]; omega) (fun j hj => by rw [HLR.out j (by rw [← HLRL.out]; exact hj), cellR_len]; omega) (by rw [valR_len]; omega)
                simp only [Value.slice.injEq] at hv5
                obtain ⟨rfl, -, rfl⟩ := hv5
                have HRM5 := Lib.hid hrm5
                obtain ⟨o0, o1, o2, -⟩ := hB.out
                have hol := hB.out.lt
                have hh := HOz.out.ext hB.e
                have HH := Lib.hid hh
                obtain ⟨r0, r1, r2, rfz⟩ := hh
                have f0 := rfz 0
                have f1 := rfz 1
                have f2 := rfz 2
                have hrl9 := HH.out.lt
                have HEW := Lib.hid (HEz.out.trans hB.e)
                have HEB := Lib.hid hB.e
                have HWLT := Lib.hid (show w.heap.size < wr.heap.size from Nat.lt_of_lt_of_le HO1.out.lt HTL.out.e.size)
                clear hB hrm5 rfz hfullQ HB
                go_wp2
                have hEx : Ext w (((wy.setCell ⟨w.heap.size, 0, none⟩ (.int .i64 (st.length : Int))).setCell ⟨w.heap.size, 1, none⟩ (.slice (some ⟨g, 0, none⟩) N N)).setCell ⟨w.heap.size, 2, none⟩ (.slice ra5 LR.length rc5)) := HEW.out.set3 (Nat.le_refl _) _ _ _
                obtain ⟨d0, d1, d2, -⟩ := ((HH.out.set0 (.int .i64 (st.length : Int))).set1 (.slice (some ⟨g, 0, none⟩) N N)).set2 (.slice ra5 LR.length rc5)
                have hrmF := HRM5.out (.int .i64 (st.length : Int)) (.slice (some ⟨g, 0, none⟩) N N) (.slice ra5 LR.length rc5)
                have hag : Agree wr.heap.size wz (((wy.setCell ⟨w.heap.size, 0, none⟩ (.int .i64 (st.length : Int))).setCell ⟨w.heap.size, 1, none⟩ (.slice (some ⟨g, 0, none⟩) N N)).setCell ⟨w.heap.size, 2, none⟩ (.slice ra5 LR.length rc5)) := fun k hk hlt =>
                  (Agree.set3 (B := wr.heap.size) wy (b := w.heap.size) HWLT.out (.int .i64 (st.length : Int)) (.slice (some ⟨g, 0, none⟩) N N) (.slice ra5 LR.length rc5) k hk (Nat.lt_of_lt_of_le hlt HEB.out.size)).trans (HEB.out.block k hlt)
                have hriF : ∀ w'', Agree w.heap.size (((wy.setCell ⟨w.heap.size, 0, none⟩ (.int .i64 (st.length : Int))).setCell ⟨w.heap.size, 1, none⟩ (.slice (some ⟨g, 0, none⟩) N N)).setCell ⟨w.heap.size, 2, none⟩ (.slice ra5 LR.length rc5)) w'' → RI w'' la (natI st) := fun w'' ha => HRI2.out w'' fun k hk hlt => (ha k (by have := HWLT.out; omega) (by have := HEB.out.size; simp; omega)).trans (hag k hk hlt)
                generalize ((wy.setCell ⟨w.heap.size, 0, none⟩ (.int .i64 (st.length : Int))).setCell ⟨w.heap.size, 1, none⟩ (.slice (some ⟨g, 0, none⟩) N N)).setCell ⟨w.heap.size, 2, none⟩ (.slice ra5 LR.length rc5) = W2 at *
                refine bodyPost_ret (v := .tuple #[.agg #[.int .i64 (st.length : Int), .slice (some ⟨g, 0, none⟩) N N, .slice ra5 LR.length rc5], .slice la st.length lc, .int .i64 0]) ?_ rfl ?_
                · rw [results_cell_two rfl]
                  go_simp
                · have hob : obM (N : Int) f seen = ⟨(st.length : Int), valR N st, LR⟩ := by
                    rw [ob_eq HN.out, HST.out, ← HLRE.out, ← HLTE.out, List.map_map, Int.toNat_natCast]; rfl
                  rw [hob, HST.out, HN.out]
                  refine ⟨some ⟨g, 0, none⟩, ra5, la, N, rc5, lc, ?_, fun w'' ha => ⟨hrmF w'' ha, hriF w'' ha⟩, hEx⟩
                  simp only [valR_len, natI_len]
end Wt
