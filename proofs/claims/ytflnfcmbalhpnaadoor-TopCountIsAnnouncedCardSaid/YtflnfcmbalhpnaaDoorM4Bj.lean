/- Walk: observe.Build. -/
import Derived.Test.YtflnfcmbalhpnaaDoorM4Bi
namespace Wt
open Go Go.RowKit Go.Maps Go.Proofs Fm

theorem obErr_many {n : Int} {f : List Nd} {seen : List (List (List Nd))} (h : 4 < seen.length ∨ ∃ l ∈ seen, 16 < l.length) : obErr n f seen = 8 := if_pos h
theorem obErr_law {n : Int} {f : List Nd} {seen : List (List (List Nd))} (h : ¬ (4 < seen.length ∨ ∃ l ∈ seen, 16 < l.length)) (h2 : tabErr f n ≠ 0) : obErr n f seen = tabErr f n := by
  unfold obErr; rw [if_neg h, if_pos h2]
theorem obErr_seen {n : Int} {f : List Nd} {seen : List (List (List Nd))} (h : ¬ (4 < seen.length ∨ ∃ l ∈ seen, 16 < l.length)) (h2 : tabErr f n = 0) (h3 : seenErr n seen ≠ 0) : obErr n f seen = seenErr n seen := by
  unfold obErr; rw [if_neg h, if_neg (by simp [h2]), if_pos h3]
theorem obErr_false {n : Int} {f : List Nd} {seen : List (List (List Nd))} (h : ¬ (4 < seen.length ∨ ∃ l ∈ seen, 16 < l.length)) (h2 : tabErr f n = 0) (h3 : seenErr n seen = 0) (h4 : tabOf f n = 0#64) : obErr n f seen = 11 := by
  unfold obErr; rw [if_neg h, if_neg (by simp [h2]), if_neg (by simp [h3]), if_pos h4]
theorem obErr_none {n : Int} {f : List Nd} {seen : List (List (List Nd))} (h : ¬ (4 < seen.length ∨ ∃ l ∈ seen, 16 < l.length)) (h2 : tabErr f n = 0) (h3 : seenErr n seen = 0) (h4 : tabOf f n ≠ 0#64) : obErr n f seen = 0 := by
  unfold obErr; rw [if_neg h, if_neg (by simp [h2]), if_neg (by simp [h3]), if_neg h4]
theorem ob_bad {n : Int} {f : List Nd} {seen : List (List (List Nd))} (h : obErr n f seen ≠ 0) : obM n f seen = ⟨0, [], []⟩ ∧ natI (obS n f seen) = [] := by
  unfold obM obS; rw [if_neg h, if_neg h]; exact ⟨rfl, rfl⟩
theorem shl_zeroU (yk : IntKind) (n : Nat) : Op.shift .shl .u64 0 yk (n : Int) = pure (.int .u64 0) := by
  have h : ¬ ((n : Int) < 0) := by omega
  have hb : IntKind.u64.bits = 64 := rfl
  simp only [Op.shift, h, if_false, Int.toNat_natCast, hb, Int.zero_mul]
  rfl
theorem or_zeroU (s : BitVec 64) : bits .or .u64 (un s) 0 = un s := by
  have := bv_or (s := s) (t := 0#64)
  simpa [un_zero] using this
theorem BR.setV {W0 w : World} {bo g n c : Nat} {len : Int} {V : List (BitVec 64)} (h : BR W0 bo len V (.slice (some ⟨g, 0, none⟩) n c) [] [] (.slice none 0 0) w) (hn : V.length = n) (hb : n ≤ 1000) {k : Nat} (hk : k < n) (s : BitVec 64) :
    g < w.heap.size ∧ w.frozen? ⟨g, k, none⟩ = false ∧ w.cell? ⟨g, k, none⟩ = some (.int .u64 (un (nth V k))) ∧ BR W0 bo len (V.set k s) (.slice (some ⟨g, 0, none⟩) n c) [] [] (.slice none 0 0) (w.setCell ⟨g, k, none⟩ (.int .u64 (un s))) := by
  subst hn
  obtain ⟨g', e, h1, h2, h3, -, h5⟩ := OU.set h.ov hk s
  simp only [Option.some.injEq, Addr.mk.injEq] at e
  obtain ⟨rfl, -, -⟩ := e
  obtain ⟨a, c', hv, hu⟩ := RU_of_OU h.ov (by omega)
  simp only [Value.slice.injEq] at hv
  obtain ⟨rfl, -, -⟩ := hv
  obtain ⟨b2, o2, e2, -, hc2⟩ := hu.get hk
  simp only [Option.some.injEq, Addr.mk.injEq] at e2
  obtain ⟨rfl, rfl, -⟩ := e2
  rw [Nat.zero_add] at hc2
  refine ⟨h2, h3, hc2, ⟨h.e.setCell (by simpa using h1) _, h.lo, h.out.other (fun e => h.ne (by simp [Value.ownBlock, e])), ?_, h.ne, rfl, ownRow_set h.orr (.inl rfl), fun j hj => absurd hj (by simp)⟩⟩
  exact h5
theorem any_seen {seen : List (List (List Nd))} : (seen.any fun r => decide (16 < r.length)) = true ↔ ∃ l ∈ seen, 16 < l.length := by simp

theorem or_pow (x : BitVec 64) {k : Nat} (h : k < 64) : bits .or .u64 (un x) (IntKind.u64.wrap (2 ^ k)) = un (x ||| 1#64 <<< k) := by
  have e := bv_shl_eq (s := 1#64) k
  rw [un_one, Nat.min_eq_left (by omega), Int.one_mul] at e
  rw [e, bv_or]
theorem one_ou {w : World} {B : Nat} {v : Value} {l : List (BitVec 64)} (h : OU w B v l) : ∀ u ∈ [v], u.oneCell' = true := by
  intro u hu
  rw [List.mem_singleton.1 hu]
  rcases h.2 with ⟨rfl, _⟩ | ⟨g, cap, cur, rfl, _⟩ <;> rfl
/-- What the struct holds is the model, also behind the stores into the result. -/
theorem BR.rm3 {W0 w : World} {bo : Nat} {len : Int} {V : List (BitVec 64)} {vv : Value} {L : List (List (BitVec 64))} {svs : List Value} {vr : Value} (h : BR W0 bo len V vv L svs vr w) {b : Nat} (hb : b < W0.heap.size) (h1 : L.length ≤ 1000) (h2 : ∀ j, j < L.length → (nth L j).length ≤ 1000) (h3 : V.length ≤ 1000) :
    ∃ va vc ra rc, vv = .slice va V.length vc ∧ vr = .slice ra L.length rc ∧ ∀ x y z w'', Agree b (((w.setCell ⟨b, 0, none⟩ x).setCell ⟨b, 1, none⟩ y).setCell ⟨b, 2, none⟩ z) w'' → RM w'' va ra ⟨len, V, L⟩ := by
  have hlo := h.lo
  obtain ⟨va, vc, hv, -⟩ := RU_of_OU h.ov (by omega)
  have hl := h.rl
  obtain ⟨a, c, hr⟩ : ∃ a c, vr = .slice a L.length c := by
    rcases h.orr.2 with ⟨rfl, h0⟩ | ⟨g, cap, cur, rfl, _⟩
    · exact ⟨none, 0, by rw [← hl, h0]⟩
    · exact ⟨some ⟨g, 0, none⟩, cap, by rw [hl]⟩
  refine ⟨va, vc, a, c, hv, hr, fun x y z w'' ha => ?_⟩
  have hk : ∀ {B T sz m : Nat} {v : Value} {xs : List Value}, b < B → w.ownsRow B T sz v m xs → w''.ownsRow B T sz v m xs := fun hB ho => own_agree (setOther (setOther (setOther ho hB) hB) hB) (ha.mono (Nat.le_of_lt hB))
  have h4 := hk (by omega) h.orr
  rw [hr] at h4
  have h5 := hk hb h.ov
  obtain ⟨va2, vc2, hv2, hu2⟩ := RU_of_OU (show OU _ _ vv V from h5) (by omega)
  rw [hv] at hv2
  simp only [Value.slice.injEq] at hv2
  obtain ⟨rfl, -, -⟩ := hv2
  exact ⟨hu2, RR_of_rows h4 hl (fun j hj => hk (by omega) (h.rw j hj)) (by show L.length ≤ _; omega) fun j hj => by have := h2 j hj; show (nth L j).length ≤ _; omega⟩
set_option maxRecDepth 20000 in
set_option maxHeartbeats 8000000 in
theorem obuildR_any (n : Int) (fa : Option Addr) (fc : Nat) (f : List Nd) (sa : Option Addr) (sc : Nat) (seen : List (List (List Nd))) (w : World) (hf : RN w fa f) (hs : RNNN w sa seen) :
    Calls Tryd.prog 32 #[.int .i64 n, .slice fa f.length fc, .slice sa seen.length sc] w fun e w' => RetR (obM n f seen) (natI (obS n f seen)) (obErr n f seen) e w w' := by
  have hE0 : Ext w (w.alloc (.cells #[.int .i64 0, .slice none 0 0, .slice none 0 0] 28)) := (Ext.refl w).alloc _
  have hO0 := OutAt.new w (.int .i64 0) (.slice none 0 0) (.slice none 0 0) 28
  have hs0 := hs.ext hE0
  have HE0 := Lib.hid hE0
  have HO := Lib.hid hO0
  have HEX := Lib.hid hE0
  have HS := Lib.hid hs
  have HF := Lib.hid hf
  have HC := Lib.hid (containsFunc_n sa seen sc _ hs0)
  have HT := Lib.hid (table_any fa fc f n _ (hf.ext hE0))
  have hsl := hs.len
  clear hs hs0 hf hE0
  by_cases hA : 4 < seen.length ∨ ∃ l ∈ seen, 16 < l.length
  · have hn := obErr_many (n := n) (f := f) hA
    have hb := ob_bad (n := n) (f := f) (seen := seen) (by rw [hn]; decide)
    have HN := Lib.hid hn
    have HN2 := Lib.hid hb.1
    have HN3 := Lib.hid hb.2
    have hd : ((decide ((4 : Int) < seen.length)) || (seen.any fun r => decide (16 < r.length))) = true := by
      rcases hA with h | h
      · simp [show (4 : Int) < seen.length by omega]
      · rw [any_seen.2 h, Bool.or_true]
    clear hn hb hA
    cases d4 : decide ((4 : Int) < seen.length)
    all_goals rw [d4] at hd
    · have HAN : Hid ((seen.any fun r => decide (16 < r.length)) = true) := Lib.hid hd
      clear hd
      have hrl := (hO0).lt
      obtain ⟨r0, r1, r2, rfz⟩ := hO0
      have f0 := rfz 0
      have f1 := rfz 1
      have f2 := rfz 2
      clear rfz
      go_enter Tryd.func32, Tryd.ntmps32
      generalize hW0 : w.alloc (.cells #[.int .i64 0, .slice none 0 0, .slice none 0 0] 28) = W0 at *
      go_wp2_with (go_at_call 48; refine (HC.out).mono ?_; rintro _ _ ⟨rfl, rfl⟩; rw [HAN.out])
      obtain ⟨d0, d1, d2, -⟩ := ((HO.out.set0 (.int .i64 0)).set1 (.slice none 0 0)).set2 (.slice none 0 0)
      have hEx : Ext w (((W0.setCell ⟨w.heap.size, 0, none⟩ (.int .i64 0)).setCell ⟨w.heap.size, 1, none⟩ (.slice none 0 0)).setCell ⟨w.heap.size, 2, none⟩ (.slice none 0 0)) := ((HEX.out.setCell (by simp) _).setCell (by simp) _).setCell (by simp) _
      generalize ((W0.setCell ⟨w.heap.size, 0, none⟩ (.int .i64 0)).setCell ⟨w.heap.size, 1, none⟩ (.slice none 0 0)).setCell ⟨w.heap.size, 2, none⟩ (.slice none 0 0) = W2 at *
      refine bodyPost_ret (v := .tuple #[.agg #[(.int .i64 0), (.slice none 0 0), (.slice none 0 0)], .slice none 0 0, .int .i64 8]) ?_ rfl ?_
      · rw [results_cell_two rfl]
        go_simp
      · rw [HN2.out, HN3.out, HN.out]
        exact RetR.zero _ hEx
    · clear hd
      have hrl := (hO0).lt
      obtain ⟨r0, r1, r2, rfz⟩ := hO0
      have f0 := rfz 0
      have f1 := rfz 1
      have f2 := rfz 2
      clear rfz
      go_enter Tryd.func32, Tryd.ntmps32
      generalize hW0 : w.alloc (.cells #[.int .i64 0, .slice none 0 0, .slice none 0 0] 28) = W0 at *
      go_wp2
      obtain ⟨d0, d1, d2, -⟩ := ((HO.out.set0 (.int .i64 0)).set1 (.slice none 0 0)).set2 (.slice none 0 0)
      have hEx : Ext w (((W0.setCell ⟨w.heap.size, 0, none⟩ (.int .i64 0)).setCell ⟨w.heap.size, 1, none⟩ (.slice none 0 0)).setCell ⟨w.heap.size, 2, none⟩ (.slice none 0 0)) := ((HEX.out.setCell (by simp) _).setCell (by simp) _).setCell (by simp) _
      generalize ((W0.setCell ⟨w.heap.size, 0, none⟩ (.int .i64 0)).setCell ⟨w.heap.size, 1, none⟩ (.slice none 0 0)).setCell ⟨w.heap.size, 2, none⟩ (.slice none 0 0) = W2 at *
      refine bodyPost_ret (v := .tuple #[.agg #[(.int .i64 0), (.slice none 0 0), (.slice none 0 0)], .slice none 0 0, .int .i64 8]) ?_ rfl ?_
      · rw [results_cell_two rfl]
        go_simp
      · rw [HN2.out, HN3.out, HN.out]
        exact RetR.zero _ hEx
  have d4 : decide ((4 : Int) < seen.length) = false := decide_eq_false (by omega)
  have HAN : Hid ((seen.any fun r => decide (16 < r.length)) = false) := by
    cases h : seen.any fun r => decide (16 < r.length)
    · exact Lib.hid rfl
    · exact absurd (.inr (any_seen.1 h)) hA
  have HA := Lib.hid hA
  have h16 : ∀ l ∈ seen, l.length ≤ 16 := fun l hl => by
    rcases Nat.lt_or_ge 16 l.length with h | h
    · exact absurd (.inr ⟨l, hl, h⟩) hA
    · exact h
  have h4 : seen.length ≤ 4 := by omega
  have H16 := Lib.hid h16
  clear hA h16
  by_cases hT : tabErr f n = 0
  rotate_left
  · have hn := obErr_law HA.out hT
    have hb := ob_bad (n := n) (f := f) (seen := seen) (by rw [hn]; exact hT)
    have HN := Lib.hid hn
    have HN2 := Lib.hid hb.1
    have HN3 := Lib.hid hb.2
    have hq : (tabErr f n != 0) = true := by simp [hT]
    clear hn hb hT
    go_enter Tryd.func32, Tryd.ntmps32
    generalize hW0 : w.alloc (.cells #[.int .i64 0, .slice none 0 0, .slice none 0 0] 28) = W0 at *
    go_wp2_with (first | (go_at_call 48; refine (HC.out).mono ?_; rintro _ _ ⟨rfl, rfl⟩; rw [HAN.out]) | (go_at_call 50; refine (HT.out).mono ?_; rintro e w1 ⟨rfl, hE1⟩; have hO1 := hO0.ext hE1; have hrl := hO1.lt; have HO1 := Lib.hid hO1; obtain ⟨r0, r1, r2, rfz⟩ := hO1; have f0 := rfz 0; have f1 := rfz 1; have f2 := rfz 2; clear rfz))
    have HO := HO1
    have HEX := Lib.hid (HE0.out.trans hE1)
    obtain ⟨d0, d1, d2, -⟩ := ((HO.out.set0 (.int .i64 0)).set1 (.slice none 0 0)).set2 (.slice none 0 0)
    have hEx : Ext w (((w1.setCell ⟨w.heap.size, 0, none⟩ (.int .i64 0)).setCell ⟨w.heap.size, 1, none⟩ (.slice none 0 0)).setCell ⟨w.heap.size, 2, none⟩ (.slice none 0 0)) := ((HEX.out.setCell (by simp) _).setCell (by simp) _).setCell (by simp) _
    generalize ((w1.setCell ⟨w.heap.size, 0, none⟩ (.int .i64 0)).setCell ⟨w.heap.size, 1, none⟩ (.slice none 0 0)).setCell ⟨w.heap.size, 2, none⟩ (.slice none 0 0) = W2 at *
    refine bodyPost_ret (v := .tuple #[.agg #[(.int .i64 0), (.slice none 0 0), (.slice none 0 0)], .slice none 0 0, .int .i64 (tabErr f n)]) ?_ rfl ?_
    · rw [results_cell_two rfl]
      go_simp
    · rw [HN2.out, HN3.out, HN.out]
      exact RetR.zero _ hEx
  obtain ⟨i0, hi1, hz0, hz1, hz2⟩ := info_parts u64_info
  obtain ⟨i2, hj1, hy0, hy1, hy2⟩ := info_parts sl_info
  obtain ⟨i3, hk1, hx0, hx1, hx2⟩ := info_parts int_info
  have HT0 := Lib.hid hT
  obtain ⟨_, _, hn0, hn6, _⟩ := tabErr_ok hT
  obtain ⟨N, rfl⟩ := Int.eq_ofNat_of_zero_le hn0
  have hN6 : N ≤ 6 := by omega
  have hN63 : N < 63 := by omega
  have hp := pow6 hN6
  have HTH : Hid (∀ k, 2 ^ N ≤ k → bt (tabOf f N) k = false) := Lib.hid fun k hk => tab_high hT (by simpa using hk)
  generalize hLT : seen.map (fun l => l.map fun g => tabOf g N) = LT
  have hLTl : LT.length = seen.length := by rw [← hLT]; simp
  have HLT : Hid (∀ a, a < seen.length → nth LT a = (nth seen a).map fun g => tabOf g N) := Lib.hid fun a ha => by rw [← hLT]; exact nth_mapN _ _ ha
  have HLTE := Lib.hid hLT
  clear hT hn0 hn6 hLT
  go_enter Tryd.func32, Tryd.ntmps32
  generalize hW0 : w.alloc (.cells #[.int .i64 0, .slice none 0 0, .slice none 0 0] 28) = W0 at *
  go_wp2_with (first | (go_at_call 48; refine (HC.out).mono ?_; rintro _ _ ⟨rfl, rfl⟩; rw [HAN.out]) | (go_at_call 50; refine (HT.out).mono ?_; rintro e w1 ⟨rfl, hE1⟩; rw [HT0.out]; have HO1 := Lib.hid (hO0.ext hE1); clear hO0))
  have hT0E : Hid (tabOf f N = tabOf f N) := Lib.hid rfl
  have HE1 := Lib.hid hE1
  generalize ht0 : tabOf f N = t0 at *
  have HT0E := Lib.hid ht0
  clear hE1 hT0E ht0 hW0
  go_loopw [11, 47] (fun v i wr => ∃ a : Nat, a ≤ seen.length ∧ i = .int .i64 (a : Int) ∧ (∃ svs, TL w1 (LT.take a) svs v wr) ∧ Hid (∀ i, i < a → tabsErr N (nth seen i) = 0)) (fun _ i _ => seen.length - (intOf i).toNat)
  case atStart => exact ⟨0, Nat.zero_le _, rfl, ⟨[], TL.nil w1 w1 (Ext.refl _)⟩, Lib.hid fun i hi => absurd hi (Nat.not_lt_zero _)⟩
  case round =>
    obtain ⟨a, ha, rfl, ⟨svs, hTL⟩, hok⟩ := hrel
    have HTL := Lib.hid hTL
    have HER := Lib.hid (HE0.out.trans (HE1.out.trans hTL.e))
    by_cases hal : a < seen.length
    · obtain ⟨b, off, a1, c1, rfl, hb0, hc0, hu⟩ := HS.out.get a hal
      have hc := HER.out.cell hc0
      have hb : b < wr.heap.size := Nat.lt_of_lt_of_le hb0 HER.out.size
      have HU := Lib.hid hu
      have hrow := HLT.out a hal
      generalize hro : nth LT a = row at hrow
      have hrl : row.length = (nth seen a).length := by rw [hrow]; simp
      have HROW : Hid (∀ j, j < (nth seen a).length → nth row j = tabOf (nth (nth seen a) j) N) := Lib.hid fun j hj => by rw [hrow]; exact nth_mapN _ _ hj
      have h16a := H16.out _ (nth_mem hal)
      clear hTL hu hb0 hc0 hrow
      go_wp2_with fail
      go_loopw [14, 53] (fun v i wz => ∃ j : Nat, j ≤ (nth seen a).length ∧ i = .int .i64 (j : Int) ∧ GLE wr row j v wz ∧ Hid (∀ i, i < j → tabErr (nth (nth seen a) i) N = 0)) (fun _ i _ => (nth seen a).length - (intOf i).toNat)
      case atStart => exact ⟨0, Nat.zero_le _, rfl, ⟨Ext.refl _, World.ownsRow_nil _ _ _ _⟩, Lib.hid fun i hi => absurd hi (Nat.not_lt_zero _)⟩
      case round =>
        rename World => wz
        obtain ⟨j, hj, rfl, hGL, hokj⟩ := hrel
        have hGL : GL wr 58 uv (row.take j) u14 wz := hGL
        have HGL := Lib.hid hGL
        by_cases hjl : j < (nth seen a).length
        · obtain ⟨b2, off2, a2, c2, rfl, hb2, hc2, hu2⟩ := HU.out.get j hjl
          have hEz := HER.out.trans hGL.e
          have hc3 := hEz.cell hc2
          have hb3 : b2 < wz.heap.size := Nat.lt_of_lt_of_le hb2 hEz.size
          have HTJ := Lib.hid (table_any a2 c2 (nth (nth seen a) j) N wz (hu2.ext hEz))
          have HEZ := Lib.hid hEz
          by_cases hTj : tabErr (nth (nth seen a) j) N = 0
          · have HTJ0 := Lib.hid hTj
            have hx : nth row j = tabOf (nth (nth seen a) j) N := HROW.out j hjl
            have htk : (row.take j).length = j := by rw [List.length_take]; omega
            have hone : row.take (j + 1) = row.take j ++ [tabOf (nth (nth seen a) j) N] := by
              rw [← hx, nth_eq _ _ (by omega), List.take_add_one, List.getElem?_eq_getElem (by omega)]; rfl
            have HONE1 := Lib.hid hone
            have hszz : wr.heap.size ≤ wz.heap.size := hGL.e.size
            generalize tabOf (nth (nth seen a) j) N = x at *
            have HONE : Hid (∀ u ∈ [Value.int .u64 (un x)], u.oneCell' = true) := Lib.hid fun u hu => by rw [List.mem_singleton.1 hu]; rfl
            clear hGL hEz hc2 hb2 hu2 hTj hx hone
            go_wp2_with (first | (go_at_call 50; refine (HTJ.out).mono ?_; rintro e w2 ⟨rfl, hE2⟩; rw [HTJ0.out]; have hsz2 : wr.heap.size ≤ w2.heap.size := Nat.le_trans hszz hE2.size; have HPA : Hid (∀ o, GL wr 58 uv (row.take j) u14 (w2.alloc o)) := Lib.hid (fun o => HGL.out.ext' (hE2.alloc o)); clear hE2) | (at_builtin; refine wpList_append_lies _ rfl _ _ 25 rfl wr.heap.size 58 i0 _ 1 8 Tryd.underlying25 hi1 hz0 hz1 hz2 rfl (by decide) u14 (row.take j).length _ rfl (HPA.out _).own ⟨w2.heap.size, 0, none⟩ 1 1 [.int .u64 (un x)] rfl rfl (cell_one_new _ _ _) HONE.out (by decide) (by unfold maxLen; omega) (by omega) (Nat.le_trans hsz2 (by simp)) (w2.heap.size + 1) (by simp) ?_; intro gx cap W1 hown hgrow hat hlt2; have hpush := (HPA.out _).push (x := x) hown hgrow; have HPU := Lib.hid hpush; clear hpush hown hgrow hat))
            go_roundw
            case rel => exact ⟨j + 1, hjl, by go_num, (by show GL _ _ _ (row.take (j + 1)) _ _; rw [HONE1.out]; rw [htk] at HPU; exact HPU.out), lt_step hokj HTJ0.out⟩
            case measure => simp [intOf]; omega
          · have hq : (tabErr (nth (nth seen a) j) N != 0) = true := by simp [hTj]
            have e1 := tabsErr_at hjl hokj.out hTj
            have e2 := seenErr_at hal hok.out (by rw [e1]; exact hTj)
            have hn := obErr_seen HA.out HT0.out (by rw [e2, e1]; exact hTj)
            rw [e2, e1] at hn
            have hbd := ob_bad (n := (N : Int)) (f := f) (seen := seen) (by rw [hn]; exact hTj)
            have HN := Lib.hid hn
            have HN2 := Lib.hid hbd.1
            have HN3 := Lib.hid hbd.2
            have HOz := Lib.hid (HO1.out.ext (HTL.out.e.trans hGL.e))
            clear hGL hEz hc2 hb2 hu2 hTj e1 e2 hn hbd
            go_wp2_with (go_at_call 50; refine (HTJ.out).mono ?_; rintro e w2 ⟨rfl, hE2⟩; have hO2 := HOz.out.ext hE2; have hrl9 := hO2.lt; have HO := Lib.hid hO2; obtain ⟨r0, r1, r2, rfz⟩ := hO2; have f0 := rfz 0; have f1 := rfz 1; have f2 := rfz 2; clear rfz)
            have HEX := Lib.hid (HEZ.out.trans hE2)
            have HO := HO
            obtain ⟨d0, d1, d2, -⟩ := ((HO.out.set0 (.int .i64 0)).set1 (.slice none 0 0)).set2 (.slice none 0 0)
            have hEx : Ext w (((w2.setCell ⟨w.heap.size, 0, none⟩ (.int .i64 0)).setCell ⟨w.heap.size, 1, none⟩ (.slice none 0 0)).setCell ⟨w.heap.size, 2, none⟩ (.slice none 0 0)) := ((HEX.out.setCell (by simp) _).setCell (by simp) _).setCell (by simp) _
            generalize ((w2.setCell ⟨w.heap.size, 0, none⟩ (.int .i64 0)).setCell ⟨w.heap.size, 1, none⟩ (.slice none 0 0)).setCell ⟨w.heap.size, 2, none⟩ (.slice none 0 0) = W2 at *
            refine bodyPost_ret (v := .tuple #[.agg #[(.int .i64 0), (.slice none 0 0), (.slice none 0 0)], .slice none 0 0, .int .i64 (tabErr (nth (nth seen a) j) N)]) ?_ rfl ?_
            · rw [results_cell_two rfl]
              go_simp
            · rw [HN2.out, HN3.out, HN.out]
              exact RetR.zero _ hEx
        · obtain rfl : j = (nth seen a).length := by omega
          have hfull : row.take (nth seen a).length = row := List.take_of_length_le (by omega)
          rw [hfull] at hGL
          obtain ⟨a3, c3, rfl, -⟩ := RU_of_OU (show OU wz wr.heap.size u14 row from hGL.own) (by omega)
          have hszr : w1.heap.size ≤ wr.heap.size := HTL.out.e.size
          have hszz : w1.heap.size ≤ wz.heap.size := Nat.le_trans hszr hGL.e.size
          have hHR : OU wz w1.heap.size (.slice a3 (nth seen a).length c3) row := by
            have h := OU.mono (show OU wz wr.heap.size _ row from hGL.own) hszr
            rw [hrl] at h; exact h
          have hTz := HTL.out.ext' hGL.e
          have hsl2 : svs.length = a := by rw [hTz.len, List.length_take]; omega
          have htok := tabsErr_none hokj.out
          have HTOK := Lib.hid htok
          have HPA : Hid (∀ o, TL w1 (LT.take a) svs u11 (wz.alloc o)) := Lib.hid fun o => hTz.ext' ((Ext.refl wz).alloc o)
          have HR3 : Hid (∀ o, OU (wz.alloc o) w1.heap.size (.slice a3 (nth seen a).length c3) row) := Lib.hid fun o => hHR.ext ((Ext.refl wz).alloc o)
          have HONE : Hid (∀ u ∈ [Value.slice a3 (nth seen a).length c3], u.oneCell' = true) := Lib.hid fun u hu => by rw [List.mem_singleton.1 hu]; rfl
          have hone : LT.take (a + 1) = LT.take a ++ [row] := by
            rw [← hro, nth_eq _ _ (by omega), List.take_add_one, List.getElem?_eq_getElem (by omega)]; rfl
          have HONE1 := Lib.hid hone
          clear hGL hHR hTz hone htok HGL hokj
          go_wp2_with (at_builtin; refine wpList_append_lies _ rfl _ _ 26 rfl w1.heap.size 25 i2 _ 1 24 Tryd.underlying26 hj1 hy0 hy1 hy2 rfl (by decide) u11 svs.length svs rfl (HPA.out _).own ⟨wz.heap.size, 0, none⟩ 1 1 [.slice a3 (nth seen a).length c3] rfl rfl (cell_one_new _ _ _) HONE.out (by decide) (by unfold maxLen; omega) (by omega) (Nat.le_trans hszz (by simp)) (wz.heap.size + 1) (by simp) ?_; intro gx cap W1 hown hgrow hat hlt2; have hpush := (HPA.out _).push (HR3.out _) hown hgrow; have HPU := Lib.hid hpush; clear hpush hown hgrow hat)
          go_roundw
          case rel => exact ⟨a + 1, hal, by go_num, ⟨_, by rw [HONE1.out]; rw [hsl2] at HPU; exact HPU.out⟩, lt_step hok HTOK.out⟩
          case measure => simp [intOf]; omega
    · obtain rfl : a = seen.length := by omega
      have hfull : LT.take seen.length = LT := List.take_of_length_le (by omega)
      rw [hfull] at hTL
      have hse := seenErr_none hok.out
      have HSE := Lib.hid hse
      have HTL := Lib.hid hTL
      have HOw := Lib.hid (HO1.out.ext hTL.e)
      clear hTL hok hse
      by_cases ht : t0 = 0#64
      · have hq : (t0 == 0#64) = true := by simp [ht]
        have hn := obErr_false HA.out HT0.out HSE.out (HT0E.out.trans ht)
        have hbd := ob_bad (n := (N : Int)) (f := f) (seen := seen) (by rw [hn]; decide)
        have HN := Lib.hid hn
        have HN2 := Lib.hid hbd.1
        have HN3 := Lib.hid hbd.2
        clear hn hbd ht
        have HO := HOw
        have HEX := HER
        have hrl9 := HOw.out.lt
        obtain ⟨r0, r1, r2, rfz⟩ := HOw.out
        have f0 := rfz 0
        have f1 := rfz 1
        have f2 := rfz 2
        clear rfz
        go_wp2
        obtain ⟨d0, d1, d2, -⟩ := ((HO.out.set0 (.int .i64 0)).set1 (.slice none 0 0)).set2 (.slice none 0 0)
        have hEx : Ext w (((wr.setCell ⟨w.heap.size, 0, none⟩ (.int .i64 0)).setCell ⟨w.heap.size, 1, none⟩ (.slice none 0 0)).setCell ⟨w.heap.size, 2, none⟩ (.slice none 0 0)) := ((HEX.out.setCell (by simp) _).setCell (by simp) _).setCell (by simp) _
        generalize ((wr.setCell ⟨w.heap.size, 0, none⟩ (.int .i64 0)).setCell ⟨w.heap.size, 1, none⟩ (.slice none 0 0)).setCell ⟨w.heap.size, 2, none⟩ (.slice none 0 0) = W2 at *
        refine bodyPost_ret (v := .tuple #[.agg #[(.int .i64 0), (.slice none 0 0), (.slice none 0 0)], .slice none 0 0, .int .i64 11]) ?_ rfl ?_
        · rw [results_cell_two rfl]
          go_simp
        · rw [HN2.out, HN3.out, HN.out]
          exact RetR.zero _ hEx
      · have hq : (t0 == 0#64) = false := by simp [ht]
        have hno := obErr_none HA.out HT0.out HSE.out (by rw [HT0E.out]; exact ht)
        have HN := Lib.hid hno
        have hst : obS N f seen = memL t0 := by
          have e : obS (N : Int) f seen = memL (tabOf f N) := if_pos hno
          rw [e, HT0E.out]
        have hsN : stTo t0 (2 ^ N) = memL t0 := stTo_mem hp HTH.out
        have HST := Lib.hid hst
        have HSN := Lib.hid hsN
        have hml := memL_len t0
        clear hno hst hsN ht
        go_wp2_with fail
        go_loopw [19, 82] (fun v i wz => ∃ k : Nat, k ≤ 2 ^ N ∧ i = .int .i64 (k : Int) ∧ GL wr 3 iv (natI (stTo t0 k)) v wz) (fun _ i _ => 2 ^ N - (intOf i).toNat)
        case atStart => exact ⟨0, Nat.zero_le _, rfl, Ext.refl _, World.ownsRow_nil _ _ _ _⟩
        case round =>
          rename World => wz
          obtain ⟨k, hk, rfl, hGL⟩ := hrel
          have HGL := Lib.hid hGL
          by_cases hkl : k < 2 ^ N
          · have hd1 : decide ((k : Int) < p2 N) = true := decide_eq_true (by unfold p2; omega)
            have hst2 := stTo_step t0 k
            have hsl2 := stTo_len t0 k
            have hk64 : k < 64 := by omega
            cases hbt : bt t0 k
            · rw [hbt] at hst2
              have hst3 : stTo t0 (k + 1) = stTo t0 k := by simpa using hst2
              have HST3 := Lib.hid hst3
              clear hst2 hst3 hGL
              go_wp2
              go_roundw
              case rel => exact ⟨k + 1, hkl, by go_num, by rw [HST3.out]; exact HGL.out⟩
              case measure => simp [intOf]; omega
            · rw [hbt] at hst2
              have hst3 : natI (stTo t0 (k + 1)) = natI (stTo t0 k) ++ [((k : Nat) : Int)] := by rw [hst2]; simp [natI]
              have HST3 := Lib.hid hst3
              have hnl : (natI (stTo t0 k)).length = (stTo t0 k).length := natI_len _
              have hszz : wr.heap.size ≤ wz.heap.size := hGL.e.size
              have HPA : Hid (∀ o, GL wr 3 iv (natI (stTo t0 k)) u19 (wz.alloc o)) := Lib.hid fun o => HGL.out.ext' ((Ext.refl wz).alloc o)
              have HONE : Hid (∀ u ∈ [Value.int .i64 ((k : Nat) : Int)], u.oneCell' = true) := Lib.hid fun u hu => by rw [List.mem_singleton.1 hu]; rfl
              clear hst2 hst3 hGL
              go_wp2_with (at_builtin; refine wpList_append_lies _ rfl _ _ 35 rfl wr.heap.size 3 i3 _ 1 8 Tryd.underlying35 hk1 hx0 hx1 hx2 rfl (by decide) u19 (natI (stTo t0 k)).length _ rfl (HPA.out _).own ⟨wz.heap.size, 0, none⟩ 1 1 [.int .i64 ((k : Nat) : Int)] rfl rfl (cell_one_new _ _ _) HONE.out (by decide) (by unfold maxLen; omega) (by omega) (Nat.le_trans hszz (by simp)) (wz.heap.size + 1) (by simp) ?_; intro gx cap W1 hown hgrow hat hlt2; have hpush := (HPA.out _).push (x := ((k : Nat) : Int)) hown hgrow; have HPU := Lib.hid hpush; clear hpush hown hgrow hat)
              go_roundw
              case rel => exact ⟨k + 1, hkl, by go_num, by rw [HST3.out]; rw [hnl] at HPU; exact HPU.out⟩
              case measure => simp [intOf]; omega
          · have hd1 : decide ((k : Int) < p2 N) = false := decide_eq_false (by unfold p2; omega)
            have hkk : k = 2 ^ N := by omega
            rw [hkk, HSN.out] at hGL
            clear hkk HGL
            obtain ⟨la, lc, rfl, hri⟩ := RI_of_own hGL.own (by rw [natI_len]; omega)
            have hEz := HER.out.trans hGL.e
            have HEZ := Lib.hid hEz
            have HRI := Lib.hid hri
            have HOWN := Lib.hid hGL.own
            have HWLT := Lib.hid HOw.out.lt
            have HOz := Lib.hid (HOw.out.ext hGL.e)
            have HTz := Lib.hid (HTL.out.ext' hGL.e)
            have hnl : (natI (memL t0)).length = (memL t0).length := natI_len _
            rw [hnl]
            clear hnl
            clear hGL hri hEz HOw HTL
            have HSTL : Hid (∀ k, k < (memL t0).length → nth (memL t0) k < 64) := Lib.hid fun k hk => (mem_memL.1 (nth_mem hk)).1
            have mk1 := fun (w : World) => run_make_row' (P := Tryd.prog) 25 58 (.int .u64 0) 8 Tryd.underlying25 u64_info rfl .i64 .i64 N (by omega) (by omega) w
            have hBR : BR wz (wz.heap.size + 1) ((memL t0).length : Int) (vaP N (memL t0) 0 0) (.slice (some ⟨wz.heap.size, 0, none⟩) N N) [] [] (.slice none 0 0) ((wz.alloc (.cells (madeCells #[.int .u64 0] N) 58)).alloc (.cells #[.int .i64 ((memL t0).length : Int), .slice (some ⟨wz.heap.size, 0, none⟩) N N, .slice none 0 0] 28)) := by
              refine ⟨((Ext.refl _).alloc _).alloc _, by omega, OutAt.new1 wz _ _ _ _ _, ?_, by simp [Value.ownBlock], rfl, World.ownsRow_nil _ _ _ _, fun j hj => absurd hj (by simp)⟩
              rw [vaP_zero]
              have h := (OG.made (enc := uv) (T := 58) wz N 0#64 (Nat.le_refl _) (by omega)).ext ((Ext.refl _).alloc (.cells #[.int .i64 ((memL t0).length : Int), .slice (some ⟨wz.heap.size, 0, none⟩) N N, .slice none 0 0] 28))
              unfold OU
              rw [List.length_replicate]
              exact h.row
            have HBR := Lib.hid hBR
            have hz0' := fun n => shl_zeroU .i64 n
            have ho0' := or_zeroU
            clear hBR
            generalize memL t0 = st at *
            go_wp2_with fail
            generalize wz.heap.size = g at *
            generalize (wz.alloc (.cells (madeCells #[.int .u64 0] N) 58)).alloc (.cells #[.int .i64 (st.length : Int), .slice (some ⟨g, 0, none⟩) N N, .slice none 0 0] 28) = wB at *
            go_loopw [102] (fun i wr => ∃ k : Nat, k ≤ st.length ∧ i = .int .i64 (k : Int) ∧ BR wz (g + 1) (st.length : Int) (vaP N st k 0) (.slice (some ⟨g, 0, none⟩) N N) [] [] (.slice none 0 0) wr) (fun i _ => st.length - (intOf i).toNat)
            case atStart => exact ⟨0, Nat.zero_le _, rfl, HBR.out⟩
            case round =>
              rename World => wv
              obtain ⟨k, hk, rfl, hBR⟩ := hrel
              have HBR2 := Lib.hid hBR
              by_cases hks : k < st.length
              · obtain ⟨bs, os, rfl, hbs, hcs⟩ := (HRI.out.ext hBR.e).get (k := k) (by rw [natI_len]; exact hks)
                rw [nth_natI hks] at hcs
                have hv63 : nth st k < 9223372036854775808 := by have := HSTL.out k hks; omega
                have hk64 : k < 64 := by omega
                clear hBR
                go_wp2_with fail
                generalize hvq : nth st k = v at *
                have HVQ := Lib.hid hvq
                clear hvq
                go_loopw [108] (fun i wy => ∃ j : Nat, j ≤ N ∧ i = .int .i64 (j : Int) ∧ BR wz (g + 1) (st.length : Int) (vaP N st k j) (.slice (some ⟨g, 0, none⟩) N N) [] [] (.slice none 0 0) wy) (fun i _ => N - (intOf i).toNat)
                case atStart => exact ⟨0, Nat.zero_le _, rfl, HBR2.out⟩
                case round =>
                  rename World => wy
                  obtain ⟨j, hj, rfl, hB⟩ := hrel
                  by_cases hjl : j < N
                  · have hset := vaP_set st k hjl
                    obtain ⟨y1, y2, y3, hnext⟩ := hB.setV (vaP_len N st k j) (by omega) hjl (setTo (fun w => (nth st w).testBit j) (k + 1))
                    rw [hset] at hnext
                    rw [vaP_nth st k j hjl, if_neg (by omega)] at y3
                    obtain ⟨o0, o1, o2, -⟩ := hB.out
                    have hol := hB.out.lt
                    have hss : setTo (fun w => (nth st w).testBit j) (k + 1) = if v.testBit j then setTo (fun w => (nth st w).testBit j) k ||| 1#64 <<< k else setTo (fun w => (nth st w).testBit j) k := by rw [← HVQ.out]; rfl
                    generalize setTo (fun w => (nth st w).testBit j) k = x at *
                    cases hbt : v.testBit j
                    · have hb0 : b01 v j = 0 := by simp [b01, hbt]
                      rw [hbt] at hss
                      have hss2 : setTo (fun w => (nth st w).testBit j) (k + 1) = x := by rw [hss]; simp
                      rw [hss2] at hnext
                      have HNX := Lib.hid hnext
                      have hor := ho0' x
                      clear hnext hB hset hss hss2 hbt
                      go_wp2_with fail
                      refine wp_region_still_tail 14 (by kernel_rfl) (by kernel_rfl) ?_
                      simp only [List.take_succ_cons, List.take_zero, List.drop_succ_cons, List.drop_zero]
                      repeat still_step
                      refine wpStill_nil ?_
                      have y2' : wy.drew.frozen? ⟨g, j, none⟩ = false := y2
                      have y3' : wy.drew.cell? ⟨g, j, none⟩ = some (.int .u64 (un x)) := y3
                      change wpList _ _ _ _ _ wy.drew
                      go_wp2
                      go_roundw
                      case rel => exact ⟨j + 1, hjl, by go_num, HNX.out.ext' (Ext.refl _).drew⟩
                      case measure => simp [intOf]; omega
                    · have hb0 : b01 v j = 1 := by simp [b01, hbt]
                      rw [hbt] at hss
                      have hss2 : setTo (fun w => (nth st w).testBit j) (k + 1) = x ||| 1#64 <<< k := by rw [hss]; simp
                      rw [hss2] at hnext
                      have HNX := Lib.hid hnext
                      have HW1 := Lib.hid (or_pow x (show k < 64 by omega))
                      clear hnext hB hset hss hss2 hbt
                      go_wp2_with fail
                      refine wp_region_still_tail 14 (by kernel_rfl) (by kernel_rfl) ?_
                      simp only [List.take_succ_cons, List.take_zero, List.drop_succ_cons, List.drop_zero]
                      repeat still_step
                      refine wpStill_nil ?_
                      have y2' : wy.drew.frozen? ⟨g, j, none⟩ = false := y2
                      have y3' : wy.drew.cell? ⟨g, j, none⟩ = some (.int .u64 (un x)) := y3
                      change wpList _ _ _ _ _ wy.drew
                      go_wp2
                      go_roundw
                      case rel => exact ⟨j + 1, hjl, by go_num, by have h := HNX.out; rw [← HW1.out] at h; exact h.ext' (Ext.refl _).drew⟩
                      case measure => simp [intOf]; omega
                  · obtain rfl : j = N := by omega
                    have HBN := Lib.hid hB
                    rw [← vaP_next] at HBN
                    clear hB
                    go_wp2
                    go_roundw
                    case rel => exact ⟨k + 1, hks, by go_num, HBN.out⟩
                    case measure => simp [intOf]; omega
              · obtain rfl : k = st.length := by omega
                rw [vaP_all] at HBR2
                clear hz0' ho0' mk1
                clear hBR HBR
                have hLT16 : ∀ j, j < LT.length → (nth LT j).length ≤ 16 := fun j hj => by
                  rw [HLT.out j (by omega), List.length_map]
                  exact H16.out _ (nth_mem (by omega))
                obtain ⟨ta, tc, rfl, hRR⟩ := HTz.out.rr (by omega) (fun j hj => by have := hLT16 j hj; omega)
                have HRR := Lib.hid hRR
                have HLT16 := Lib.hid hLT16
                generalize hLR : LT.map (fun ts => cellR st ts) = LR
                have hLRl : LR.length = LT.length := by rw [← hLR]; simp
                have HLR : Hid (∀ a, a < LT.length → nth LR a = cellR st (nth LT a)) := Lib.hid fun a ha => by rw [← hLR]; exact nth_mapN _ _ ha
                have HLRE := Lib.hid hLR
                obtain ⟨o0, o1, o2, -⟩ := HBR2.out.out
                have hol := HBR2.out.out.lt
                have hLT4 : LT.length ≤ 4 := by omega
                have hLR4 : LR.length ≤ 4 := by omega
                have HLTL := Lib.hid hLTl
                have HLRL := Lib.hid hLRl
                clear hRR hLT16 hLR HLT hLTl hLRl
                go_wp2_with fail
                clear o0 o1 o2 hol
                go_loopw [129] (fun i wy => ∃ a : Nat, a ≤ LT.length ∧ i = .int .i64 (a : Int) ∧ ∃ svs vr, BR wz (g + 1) (st.length : Int) (valR N st) (.slice (some ⟨g, 0, none⟩) N N) (LR.take a) svs vr wy) (fun i _ => LT.length - (intOf i).toNat)
                case atStart => exact ⟨0, Nat.zero_le _, rfl, [], _, HBR2.out⟩
                case round =>
                  rename World => wy
                  obtain ⟨a, ha, rfl, svs3, vr3, hB⟩ := hrel
                  have HB := Lib.hid hB
                  by_cases hal : a < LT.length
                  · obtain ⟨b3, off3, a3, c3, rfl, hb3, hc3, hu3⟩ := (HRR.out.ext hB.e).get hal
                    obtain ⟨o0, o1, o2, ofz⟩ := hB.out
                    have hol := hB.out.lt
                    have hfz := ofz 2
                    have hlo : g + 1 < wy.heap.size := hol
                    have HCALL : Hid (∀ W, Ext wy W → Calls Tryd.prog 51 #[.slice la st.length lc, .slice a3 (nth LT a).length c3] W fun e w' => (∃ v, e = .returned v ∧ OU w' W.heap.size v (cellR st (nth LT a))) ∧ Ext W w') :=
                      Lib.hid fun W hW => cells_any st la lc (nth LT a) a3 c3 W ((HRI.out.ext hB.e).ext hW) (hu3.ext hW) (HLT16.out a hal) hml
                    have hrl3 : svs3.length = a := by have h := hB.rl; rw [List.length_take, HLRL.out] at h; omega
                    have HPA : Hid (∀ W o, Ext wy W → BR wz (g + 1) (st.length : Int) (valR N st) (.slice (some ⟨g, 0, none⟩) N N) (LR.take a) svs3 vr3 (W.alloc o)) := Lib.hid fun W o hW => HB.out.ext' (hW.alloc o)
                    have HOUT : Hid (∀ W, Ext wy W → OutAt W (g + 1) (.int .i64 (st.length : Int)) (.slice (some ⟨g, 0, none⟩) N N) vr3) := Lib.hid fun W hW => HB.out.out.ext hW
                    have hone : LR.take (a + 1) = LR.take a ++ [cellR st (nth LT a)] := by
                      rw [← HLR.out a hal, nth_eq _ _ (by rw [HLRL.out]; exact hal), List.take_add_one, List.getElem?_eq_getElem (by rw [HLRL.out]; exact hal)]; rfl
                    have HONE1 := Lib.hid hone
                    clear hB hu3 hone ofz
                    go_wp2_with fail
                    go_region_law (first | (refine step_go (by rfl) ?_; go_simp; refine (HCALL.out _ (Ext.refl _).drew).mono ?_; rintro _ w5 ⟨⟨v5, rfl, hou⟩, hE5⟩; obtain ⟨a5, c5, rfl, -⟩ := RU_of_OU hou (by rw [cellR_len]; omega); have hE6 := (Ext.refl wy).drew.trans hE5; obtain ⟨p0, p1, p2, pfz⟩ := HOUT.out _ hE6; have pf := pfz 2; have hl5 := (HOUT.out _ hE6).lt; clear pfz; have HOU5 := Lib.hid hou; have HE6 := Lib.hid hE6; clear hou hE5 hE6; dsimp only) | (refine step_append_lies _ (by rfl) _ _ 26 (by rfl) (g + 2) 25 i2 _ 1 24 Tryd.underlying26 hj1 hy0 hy1 hy2 rfl (by decide) vr3 svs3.length svs3 (by rfl) (HPA.out _ _ HE6.out).orr _ 1 1 [.slice a5 (cellR st (nth LT a)).length c5] (by rfl) (by rfl) (cell_one_new _ _ _) (one_ou HOU5.out) (by decide) (by unfold maxLen; omega) (by omega) (by have := HE6.out.size; simp; omega) (w5.heap.size + 1) (by simp) ?_; intro gx cap W1 hown hgrow hat hlt2; have hnew := (HPA.out _ _ HE6.out).push (OU.mono (HOU5.out.ext ((Ext.refl _).alloc _)) (by simp; omega)) hown hgrow; obtain ⟨q0, q1, q2, qfz⟩ := (HPA.out _ _ HE6.out).outR hgrow; have qf := qfz 2; clear qfz; have HNEW := Lib.hid hnew; clear hnew hown hgrow hat))
                    all_goals
                      go_wp2
                      go_roundw
                      case rel => exact ⟨a + 1, hal, by go_num, _, _, by rw [HONE1.out]; have h := HNEW.out; rw [hrl3] at h; exact h⟩
                      case measure => simp [intOf]; omega
                  · obtain rfl : a = LT.length := by omega
                    have hfull3 : LR.take LT.length = LR := by rw [← HLRL.out]; exact List.take_length
                    rw [hfull3] at hB
                    clear hfull3 HB
                    obtain ⟨va5, vc5, ra5, rc5, hv5, rfl, hrm5⟩ := hB.rm3 (b := w.heap.size) HOz.out.lt (by omega) (fun j hj => by rw [HLR.out j (by rw [← HLRL.out]; exact hj), cellR_len]; omega) (by rw [valR_len]; omega)
                    simp only [Value.slice.injEq] at hv5
                    obtain ⟨rfl, -, rfl⟩ := hv5
                    have HRM5 := Lib.hid hrm5
                    obtain ⟨o0, o1, o2, -⟩ := hB.out
                    have hol := hB.out.lt
                    have hh := HOz.out.ext hB.e
                    have HH := Lib.hid hh
                    obtain ⟨r0, r1, r2, rfz⟩ := hh
                    have f0 := rfz 0
                    have f1 := rfz 1
                    have f2 := rfz 2
                    have hrl9 := HH.out.lt
                    have HEW := Lib.hid (HEZ.out.trans hB.e)
                    have HOWy := Lib.hid (own_agree HOWN.out (Agree.ofExt hB.e))
                    clear hB hrm5 rfz
                    go_wp2
                    have hEx : Ext w (((wy.setCell ⟨w.heap.size, 0, none⟩ (.int .i64 (st.length : Int))).setCell ⟨w.heap.size, 1, none⟩ (.slice (some ⟨g, 0, none⟩) N N)).setCell ⟨w.heap.size, 2, none⟩ (.slice ra5 LR.length rc5)) := HEW.out.set3 (Nat.le_refl _) _ _ _
                    obtain ⟨d0, d1, d2, -⟩ := ((HH.out.set0 (.int .i64 (st.length : Int))).set1 (.slice (some ⟨g, 0, none⟩) N N)).set2 (.slice ra5 LR.length rc5)
                    have hrmF := HRM5.out (.int .i64 (st.length : Int)) (.slice (some ⟨g, 0, none⟩) N N) (.slice ra5 LR.length rc5)
                    have hriF := setOther (k := 2) (u := .slice ra5 LR.length rc5) (setOther (k := 1) (u := .slice (some ⟨g, 0, none⟩) N N) (setOther (k := 0) (u := .int .i64 (st.length : Int)) HOWy.out HWLT.out) HWLT.out) HWLT.out
                    generalize ((wy.setCell ⟨w.heap.size, 0, none⟩ (.int .i64 (st.length : Int))).setCell ⟨w.heap.size, 1, none⟩ (.slice (some ⟨g, 0, none⟩) N N)).setCell ⟨w.heap.size, 2, none⟩ (.slice ra5 LR.length rc5) = W2 at *
                    refine bodyPost_ret (v := .tuple #[.agg #[.int .i64 (st.length : Int), .slice (some ⟨g, 0, none⟩) N N, .slice ra5 LR.length rc5], .slice la st.length lc, .int .i64 0]) ?_ rfl ?_
                    · rw [results_cell_two rfl]
                      go_simp
                    · have hob : obM (N : Int) f seen = ⟨(st.length : Int), valR N st, LR⟩ := by
                        rw [ob_eq HN.out, HST.out, ← HLRE.out, ← HLTE.out, List.map_map, Int.toNat_natCast]; rfl
                      have hriG : ∀ w'', Agree w.heap.size W2 w'' → RI w'' la (natI st) := fun w'' ha => by
                        obtain ⟨la2, lc2, hla, hriG⟩ := RI_of_own (own_agree hriF (ha.mono (Nat.le_of_lt HWLT.out))) (by rw [natI_len]; omega)
                        simp only [Value.slice.injEq] at hla
                        obtain ⟨rfl, -, -⟩ := hla
                        exact hriG
                      rw [hob, HST.out, HN.out]
                      refine ⟨some ⟨g, 0, none⟩, ra5, la, N, rc5, lc, ?_, fun w'' ha => ⟨hrmF w'' ha, hriG w'' ha⟩, hEx⟩
                      simp only [valR_len, natI_len]
theorem obuild_any (n : Int) (fa : Option Addr) (fc : Nat) (f : List Nd) (sa : Option Addr) (sc : Nat) (seen : List (List (List Nd))) (w : World) (hf : RN w fa f) (hs : RNNN w sa seen) :
    Calls Tryd.prog 32 #[.int .i64 n, .slice fa f.length fc, .slice sa seen.length sc] w fun e w' => RetBu (obM n f seen) (natI (obS n f seen)) (obErr n f seen) e w w' :=
  (obuildR_any n fa fc f sa sc seen w hf hs).mono fun _ _ h => h.bu
end Wt
