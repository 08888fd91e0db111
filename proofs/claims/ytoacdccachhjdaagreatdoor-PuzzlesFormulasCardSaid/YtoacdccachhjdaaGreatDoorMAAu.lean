/- Walks: boolean.isPropositional, combine, value. -/
import Derived.Test.YtoacdccachhjdaaGreatDoorMAAp
import Derived.Test.YtoacdccachhjdaaGreatDoorMAAl
import Derived.Deep.QuietTactic
import Derived.BigQuiet
import Derived.Test.YtoacdccachhjdaaGreatDoorMAAo
namespace Wt
open Go Go.RowKit Go.Proofs Fm

set_option maxHeartbeats 1000000 in
theorem isProp_any (o : Int) (w : World) : Calls Tryz.prog 137 #[.int .i64 o] w fun e w' => e = .returned (.bool (decide (o ≤ 8))) ∧ w = w' := by
  go_enter Tryz.func137, Tryz.ntmps137
  go_wp2
  go_ret
  exact ⟨rfl, rfl⟩
/-- The value of an operator but a fact. -/
def cmbN (o : Int) (x y : Bool) : Bool := pvN (fun _ => false) o 0 x y
theorem pvN_cmb (e : Nat → Bool) {o : Int} (i : Int) (x y : Bool) (h : o ≠ 3) : pvN e o i x y = cmbN o x y := by
  unfold cmbN pvN; rw [if_neg h, if_neg h]
theorem pvN_fact (e : Nat → Bool) (i : Int) (x y : Bool) : pvN e 3 i x y = e i.toNat := by unfold pvN; simp
set_option maxHeartbeats 1000000 in
theorem combine_any (o : Int) (x y : Bool) (w : World) (h3 : o ≠ 3) : Calls Tryz.prog 138 #[.int .i64 o, .bool x, .bool y] w fun e w' => e = .returned (.bool (cmbN o x y)) ∧ w = w' := by
  have H := Lib.hid h3
  clear h3
  go_enter Tryz.func138, Tryz.ntmps138
  go_wp2
  all_goals
    have h3 := H.out
    simp only [beq_iff_eq, beq_eq_false_iff_ne] at *
    go_ret
    refine ⟨?_, rfl⟩
    congr 2
    simp [cmbN, pvN, *]
/-- What a round of value keeps. -/
def ValAt (W0 wr : World) (e : Nat → Bool) (f : List Nd) (g k : Nat) : Prop := Ext W0 wr ∧ OG wr W0.heap.size 4 Value.bool g f.length f.length (doneL f.length k (fun j => pv e (trAt f j)) false)
theorem ValAt.mono {W0 wr w2 : World} {e : Nat → Bool} {f : List Nd} {g k : Nat} (h : ValAt W0 wr e f g k) (x : Ext wr w2) : ValAt W0 w2 e f g k := ⟨h.1.trans x, h.2.ext x⟩
theorem ValAt.put {W0 wr : World} {e : Nat → Bool} {f : List Nd} {g k : Nat} (h : ValAt W0 wr e f g k) (hk : k < f.length) {b : Bool} (hb : pv e (trAt f k) = b) : ValAt W0 (wr.setCell ⟨g, k, none⟩ (.bool b)) e f g (k + 1) := by
  subst hb
  refine ⟨h.1.setCell h.2.base_le _, ?_⟩
  rw [← doneL_set _ _ _ _ hk]
  exact h.2.set k _
set_option maxRecDepth 20000 in
set_option maxHeartbeats 4000000 in
theorem bvalue_any (F : Nat) (c d : Value) (fa : Option Addr) (fc : Nat) (f : List Nd) (w : World) (hr : RN w fa f) (hw : Wf f) (h1 : 1 ≤ f.length) (h200 : f.length ≤ 200) (e : Nat → Bool) (hop : ∀ k, k < f.length → (nth f k).op ≤ 8)
    (hF : ∀ args W, (callFunc F args).run Tryz.prog W = .ok (.enter F args) W)
    (hp : ∀ W k, Ext w W → k < f.length → Calls Tryz.prog F #[.int .i64 (k : Int), c, d] W fun en w' => en = .returned (.bool (e (nth f k).i.toNat)) ∧ Qu W w') :
    Calls Tryz.prog 92 #[.slice fa f.length fc, .func (.func F) #[] #[c, d]] w fun en w' => en = .returned (.bool (pv e (rt f))) ∧ Ext w w' := by
  have mk2 := fun (w : World) => run_make_row' (P := Tryz.prog) 68 4 (.bool false) 1 Tryz.underlying68 bool_info rfl .i64 .i64 f.length (by omega) (by omega) w
  have HP := Lib.hid hp
  have HR := Lib.hid hr
  have HW := Lib.hid hw
  have HOP := Lib.hid hop
  have hfl := hr.len
  have H1 := Lib.hid h1
  have hS0 : ValAt w (w.alloc (.cells (madeCells #[.bool false] f.length) 4)) e f w.heap.size 0 := by
    refine ⟨(Ext.refl w).alloc _, ?_⟩
    rw [doneL_zero]
    exact OG.made (enc := Value.bool) w f.length false (Nat.le_refl _) hfl
  have HS0 := Lib.hid hS0
  clear hp hr hw hop hS0 h1 h200
  go_enter Tryz.func92, Tryz.ntmps92
  go_wp2
  generalize w.heap.size = g at HS0 ⊢
  generalize w.alloc (.cells (madeCells #[.bool false] f.length) 4) = wl at HS0 ⊢
  go_loopw [13] (fun i wr => ∃ k : Nat, k ≤ f.length ∧ i = .int .i64 k ∧ ValAt w wr e f g k) (fun i _ => f.length - (intOf i).toNat)
  case atStart => exact ⟨0, Nat.zero_le _, rfl, HS0.out⟩
  case round =>
    obtain ⟨k, hk, rfl, hs⟩ := hrel
    have HS := Lib.hid hs
    clear HS0
    by_cases hlt : k < f.length
    · obtain ⟨b, off, rfl, hb, n0, n1, n2, n3, n4, n5⟩ := (HR.out.ext hs.1).get hlt
      obtain ⟨X, hX, hXl, hXk⟩ := nd_x HW.out hlt
      obtain ⟨Y, hY, hYl, hYk⟩ := nd_y HW.out hlt
      rw [hX] at n4
      rw [hY] at n5
      have bx := hs.2.cell hXl
      have by1 := hs.2.cell hYl
      have bl := hs.2.lt
      have bf := hs.2.frozen k
      have bc := hs.2.cell hlt
      have hpv : ∀ x y : Bool, (4 ≤ (nth f k).op → x = pv e (trAt f (nth f k).x.toNat)) → (5 ≤ (nth f k).op → y = pv e (trAt f (nth f k).y.toNat)) → pv e (trAt f k) = pvN e (nth f k).op (nth f k).i x y := fun x y hx hy => pv_node e HW.out hlt (HOP.out k hlt) x y hx hy
      have h8 := HOP.out k hlt
      have hd8 : decide ((nth f k).op ≤ 8) = true := decide_eq_true h8
      have h4k := fun h => hXk h
      have h5k : 5 ≤ (nth f k).op → Y < k := fun h => hYk (.inl ⟨h, h8⟩)
      rw [hX, hY, Int.toNat_natCast, Int.toNat_natCast] at hpv
      generalize hBX : nth (doneL f.length k (fun j => pv e (trAt f j)) false) X = sx at bx
      generalize hBY : nth (doneL f.length k (fun j => pv e (trAt f j)) false) Y = sy at by1
      have hv : pv e (trAt f k) = pvN e (nth f k).op (nth f k).i sx sy := hpv sx sy
        (fun h => by rw [← hBX, doneL_nth _ _ _ _ hXl, if_pos (h4k h)])
        (fun h => by rw [← hBY, doneL_nth _ _ _ _ hYl, if_pos (h5k h)])
      have HP2 : Hid (∀ W, Ext w W → Calls Tryz.prog F #[.int .i64 (k : Int), c, d] W fun en w' => en = .returned (.bool (e (nth f k).i.toNat)) ∧ Qu W w') := Lib.hid fun W hW => HP.out W k hW hlt
      clear hBX hBY hX hXk hY hYk hpv h4k h5k h8
      generalize (nth f k).op = op at n0 hv hd8
      generalize (nth f k).i = ni at n1 hv HP2
      generalize (nth f k).e = ne at n2
      generalize (nth f k).g = ng at n3
      by_cases h3 : op = 3
      · subst h3
        have hv2 : pv e (trAt f k) = e ni.toNat := by rw [hv, pvN_fact]
        have HV := Lib.hid hv2
        clear hv hv2
        go_upto_region 6 with (go_at_call 137; refine (isProp_any _ _).mono ?_; rintro _ _ ⟨rfl, rfl⟩)
        go_wp2_with fail
        refine (HP2.out _ (HS.out.1.alloc _)).mono ?_
        rintro _ w2 ⟨rfl, hq⟩
        have hs2 := HS.out.mono (((Ext.refl wr).alloc _).trans hq.ext)
        have zf := hs2.2.frozen k
        have zc := hs2.2.cell hlt
        have zl := hs2.2.lt
        have HS2 := Lib.hid hs2
        clear hs hs2 HS hq n0 n1 n2 n3 n4 n5 bx by1 bl bf bc
        go_wp2
        go_roundw
        case rel => exact ⟨k + 1, hlt, by go_num, HS2.out.put hlt HV.out⟩
        case measure => simp [intOf]; omega
      · have hd3 : (op == 3) = false := by simp [h3]
        have hv2 : pv e (trAt f k) = cmbN op sx sy := by rw [hv, pvN_cmb e ni sx sy h3]
        have HV := Lib.hid hv2
        have H3 := Lib.hid h3
        clear hv hv2 h3
        go_upto_region 7 with (go_at_call 137; refine (isProp_any _ _).mono ?_; rintro _ _ ⟨rfl, rfl⟩)
        have hs3 := HS.out.mono ((Ext.refl wr).alloc (.cells #[.int .i64 op, .int .i64 ni, .int .i64 ne, .int .i64 ng, .int .i64 (X : Int), .int .i64 (Y : Int)] 109))
        have z0 : (wr.alloc (.cells #[.int .i64 op, .int .i64 ni, .int .i64 ne, .int .i64 ng, .int .i64 (X : Int), .int .i64 (Y : Int)] 109)).cell? ⟨wr.heap.size, 0, none⟩ = some (.int .i64 op) := by simp
        have z4 : (wr.alloc (.cells #[.int .i64 op, .int .i64 ni, .int .i64 ne, .int .i64 ng, .int .i64 (X : Int), .int .i64 (Y : Int)] 109)).cell? ⟨wr.heap.size, 4, none⟩ = some (.int .i64 (X : Int)) := by simp
        have z5 : (wr.alloc (.cells #[.int .i64 op, .int .i64 ni, .int .i64 ne, .int .i64 ng, .int .i64 (X : Int), .int .i64 (Y : Int)] 109)).cell? ⟨wr.heap.size, 5, none⟩ = some (.int .i64 (Y : Int)) := by simp
        have zx := ((Ext.refl wr).alloc (.cells #[.int .i64 op, .int .i64 ni, .int .i64 ne, .int .i64 ng, .int .i64 (X : Int), .int .i64 (Y : Int)] 109)).cell bx
        have zy := ((Ext.refl wr).alloc (.cells #[.int .i64 op, .int .i64 ni, .int .i64 ne, .int .i64 ng, .int .i64 (X : Int), .int .i64 (Y : Int)] 109)).cell by1
        have HS3 := Lib.hid hs3
        have zf := hs3.2.frozen k
        have zc := hs3.2.cell hlt
        have zl := hs3.2.lt
        clear hs hs3 HS n0 n1 n2 n3 n4 n5 bx by1 bl bf bc
        generalize wr.heap.size = nb at *
        generalize wr.alloc (.cells #[.int .i64 op, .int .i64 ni, .int .i64 ne, .int .i64 ng, .int .i64 (X : Int), .int .i64 (Y : Int)] 109) = wl2 at *
        refine wp_region_still_tail 16 (by kernel_rfl) (by kernel_rfl) ?_
        simp only [List.take_succ_cons, List.take_zero, List.drop_succ_cons, List.drop_zero]
        repeat still_step
        still_call ((combine_any _ _ _ _ H3.out).mono fun _ _ h => ⟨h.1, h.2.symm⟩)
        repeat still_step
        refine wpStill_nil ?_
        have zf2 : wl2.drew.frozen? ⟨g, k, none⟩ = false := zf
        have zc2 : wl2.drew.cell? ⟨g, k, none⟩ = some (.bool (nth (doneL f.length k (fun j => pv e (trAt f j)) false) k)) := zc
        have HS4 := Lib.hid (HS3.out.mono (Ext.refl wl2).drew)
        change wpList _ _ _ _ _ wl2.drew
        generalize wl2.drew = wd at HS4 zf2 zc2 ⊢
        clear zf zc zx zy z0 z4 z5
        go_wp2
        go_roundw
        case rel => exact ⟨k + 1, hlt, by go_num, HS4.out.put hlt HV.out⟩
        case measure => simp [intOf]; omega
    · obtain rfl : k = f.length := by omega
      have hs2 := HS.out.2
      rw [doneL_all] at hs2
      have h1 := H1.out
      have hc := hs2.cell (k := f.length - 1) (by omega)
      have e1 : (f.length : Int) - 1 = ((f.length - 1 : Nat) : Int) := by omega
      have e2 : nth ((List.range f.length).map fun j => pv e (trAt f j)) (f.length - 1) = pv e (rt f) := by
        rw [nth_mapN _ _ (by simp; omega), nth_range (by omega)]; rfl
      rw [e2] at hc
      have hlm : f.length - 1 < f.length := by omega
      have bl := hs2.lt
      clear hs2 hs
      go_wp2
      go_ret
      exact ⟨rfl, HS.out.1⟩
end Wt

/- Walk: boolean.Table. -/
namespace Wt
open Go Go.RowKit Go.Proofs Fm

theorem cf_table1 (args : Array Value) (W : World) : (callFunc 93 args).run Tryz.prog W = .ok (.enter 93 args) W := by
  simp [callFunc, Tryz.func93, Tryz.f93]
set_option maxHeartbeats 1000000 in
theorem table1_any (v k b1 b2 : Nat) (fa : Option Addr) (fc : Nat) (f : List Nd) (w : World) (hv : v < 9223372036854775808) (h1 : w.cell? ⟨b1, 0, none⟩ = some (.int .i64 (v : Int))) (h2 : w.cell? ⟨b2, 0, none⟩ = some (.slice fa f.length fc)) (hr : RN w fa f) (hk : k < f.length) (hi : 0 ≤ (nth f k).i) :
    Calls Tryz.prog 93 #[.int .i64 (k : Int), .pointer (some ⟨b1, 0, none⟩), .pointer (some ⟨b2, 0, none⟩)] w fun e w' => e = .returned (.bool (v.testBit (nth f k).i.toNat)) ∧ Qu w w' := by
  obtain ⟨b, off, rfl, hb, n0, n1, n2, n3, n4, n5⟩ := hr.get hk
  obtain ⟨I, hI⟩ := Int.eq_ofNat_of_zero_le hi
  rw [hI] at n1 ⊢
  simp only [Int.toNat_natCast]
  have hl := World.block_lt_of_cell? _ _ h1
  have hl2 := World.block_lt_of_cell? _ _ h2
  have hfl := hr.len
  clear hr hi hI n0 n2 n3 n4 n5
  cases hb : v.testBit I
  · have hb0 : b01 v I = 0 := by simp [b01, hb]
    clear hb
    go_enter Tryz.func93, Tryz.ntmps93
    go_wp2_with fail
    go_quiet (fail)
    go_wp2
    go_ret
    exact ⟨rfl, (Qu.refl _).drewN _⟩
  · have hb0 : b01 v I = 1 := by simp [b01, hb]
    clear hb
    go_enter Tryz.func93, Tryz.ntmps93
    go_wp2_with fail
    go_quiet (fail)
    go_wp2
    go_ret
    exact ⟨rfl, (Qu.refl _).drewN _⟩
theorem compact_wfT {f : List Nd} (h : fCheck f = 0) : Wf (fCompact f) ∧ rt (fCompact f) = rt f ∧ 1 ≤ (fCompact f).length := by
  have If := IsF.of h
  have hk := If.fk
  rw [If.compact]
  exact ⟨canon_wf _ hk, trAt_canon _ hk, by rw [canon_length]; exact fsize_pos _⟩
set_option maxRecDepth 20000 in
set_option maxHeartbeats 4000000 in
theorem table_any (fa : Option Addr) (fc : Nat) (f : List Nd) (n : Int) (w : World) (hf : RN w fa f) :
    Calls Tryz.prog 45 #[.slice fa f.length fc, .int .i64 n] w fun e w' => RetP (.int .u64 (un (tabOf f n))) (tabErr f n) e w w' := by
  have HC := Lib.hid (check_any fa fc f w hf)
  have HF := Lib.hid hf
  by_cases h1 : fCheck f = 0
  rotate_left
  · have hn : tabErr f n = fCheck f := by unfold tabErr; rw [if_pos h1]
    have hn2 : tabOf f n = 0#64 := by unfold tabOf; rw [if_neg (by rw [hn]; exact h1)]
    have hq : (fCheck f != 0) = true := by simp [h1]
    have HN := Lib.hid hn
    have HN2 := Lib.hid hn2
    clear hn hn2 h1 hf
    go_enter Tryz.func45, Tryz.ntmps45
    go_wp2_with (go_at_call 89; refine (HC.out).mono ?_; rintro e w1 ⟨rfl, hE1⟩)
    go_ret2
    exact ⟨by rw [HN.out, HN2.out]; rfl, hE1⟩
  have H1 := Lib.hid h1
  by_cases h2 : fFrags f = 0
  rotate_left
  · have hn : tabErr f n = 10 := by unfold tabErr; rw [if_neg (by simp [h1]), if_pos h2]
    have hn2 : tabOf f n = 0#64 := by unfold tabOf; rw [if_neg (by rw [hn]; omega)]
    have hq : ((fFrags f : Int) != 0) = true := by simp [h2]
    have HN := Lib.hid hn
    have HN2 := Lib.hid hn2
    clear hn hn2 h1 h2 hf
    go_enter Tryz.func45, Tryz.ntmps45
    go_wp2_with (first | (go_at_call 89; refine (HC.out).mono ?_; rintro e w1 ⟨rfl, hE1⟩; rw [H1.out]) | (go_at_call 90; refine (frags_any _ _ _ _ (HF.out.ext hE1)).mono ?_; rintro e w2 ⟨rfl, hE2⟩))
    go_ret2
    exact ⟨by rw [HN.out, HN2.out]; rfl, hE1.trans hE2⟩
  have H2 := Lib.hid h2
  have hq2 : ((fFrags f : Int) != 0) = false := by simp [h2]
  by_cases h3 : n < 0
  · have hn : tabErr f n = 2 := by unfold tabErr; rw [if_neg (by simp [h1]), if_neg (by simp [h2]), if_pos (.inl h3)]
    have hn2 : tabOf f n = 0#64 := by unfold tabOf; rw [if_neg (by rw [hn]; omega)]
    have hd : decide (n < 0) = true := decide_eq_true h3
    have HN := Lib.hid hn
    have HN2 := Lib.hid hn2
    cases h6 : decide (6 < n)
    all_goals
      clear hn hn2 h1 h2 h3 hf
      go_enter Tryz.func45, Tryz.ntmps45
      go_wp2_with (first | (go_at_call 89; refine (HC.out).mono ?_; rintro e w1 ⟨rfl, hE1⟩; rw [H1.out]) | (go_at_call 90; refine (frags_any _ _ _ _ (HF.out.ext hE1)).mono ?_; rintro e w2 ⟨rfl, hE2⟩))
      go_ret2
      exact ⟨by rw [HN.out, HN2.out]; rfl, hE1.trans hE2⟩
  obtain ⟨N, rfl⟩ := Int.eq_ofNat_of_zero_le (show 0 ≤ n by omega)
  have hd : decide ((N : Int) < 0) = false := decide_eq_false h3
  by_cases h6 : 6 < N
  · have hn : tabErr f N = 2 := by unfold tabErr; rw [if_neg (by simp [h1]), if_neg (by simp [h2]), if_pos (.inr (.inl (by omega)))]
    have hn2 : tabOf f N = 0#64 := by unfold tabOf; rw [if_neg (by rw [hn]; omega)]
    have hd6 : decide ((6 : Int) < N) = true := decide_eq_true (by omega)
    have HN := Lib.hid hn
    have HN2 := Lib.hid hn2
    clear hn hn2 h1 h2 h3 hf h6
    go_enter Tryz.func45, Tryz.ntmps45
    go_wp2_with (first | (go_at_call 89; refine (HC.out).mono ?_; rintro e w1 ⟨rfl, hE1⟩; rw [H1.out]) | (go_at_call 90; refine (frags_any _ _ _ _ (HF.out.ext hE1)).mono ?_; rintro e w2 ⟨rfl, hE2⟩))
    go_ret2
    exact ⟨by rw [HN.out, HN2.out]; rfl, hE1.trans hE2⟩
  have hd6 : decide ((6 : Int) < N) = false := decide_eq_false (by omega)
  cases h7 : fFits f 0 N
  · have hn : tabErr f N = 2 := by unfold tabErr; rw [if_neg (by simp [h1]), if_neg (by simp [h2]), if_pos (.inr (.inr (by simpa using h7)))]
    have hn2 : tabOf f N = 0#64 := by unfold tabOf; rw [if_neg (by rw [hn]; omega)]
    have HN := Lib.hid hn
    have HN2 := Lib.hid hn2
    have H7 := Lib.hid h7
    clear hn hn2 h1 h2 h3 hf h6 h7
    go_enter Tryz.func45, Tryz.ntmps45
    go_wp2_with (first | (go_at_call 89; refine (HC.out).mono ?_; rintro e w1 ⟨rfl, hE1⟩; rw [H1.out]) | (go_at_call 90; refine (frags_any _ _ _ _ (HF.out.ext hE1)).mono ?_; rintro e w2 ⟨rfl, hE2⟩) | (go_at_call 91; refine (fits_any fa fc f 0 N _ (HF.out.ext (hE1.trans hE2))).mono ?_; rintro e w3 ⟨rfl, hE3⟩; rw [H7.out]))
    go_ret2
    exact ⟨by rw [HN.out, HN2.out]; rfl, (hE1.trans hE2).trans hE3⟩
  · have hn : tabErr f N = 0 := by unfold tabErr; rw [if_neg (by simp [h1]), if_neg (by simp [h2]), if_neg (by rw [Int.toNat_natCast, h7]; simp; omega)]
    have hn2 : tabOf f N = setTo (fun v => pv v.testBit (rt f)) (2 ^ N) := by rw [tab_eq hn]; simp
    obtain ⟨c1, c2, c3⟩ := compact_wfT h1
    have hops := prop_ops h2
    have hcl := (fCompact_ok f).2
    have hN6 : N ≤ 6 := by omega
    have hN63 : N < 63 := by omega
    have hp := pow6 hN6
    have HN := Lib.hid hn
    have HN2 := Lib.hid hn2
    have H7 := Lib.hid h7
    have HW := Lib.hid c1
    have HRT := Lib.hid c2
    have HL1 := Lib.hid c3
    have HOP : Hid (∀ k, k < (fCompact f).length → (nth (fCompact f) k).op ≤ 8) := Lib.hid fun k hk => (hops _ (nth_mem hk)).2
    clear hn hn2 h1 h2 h3 hf h6 h7 c1 c2 c3 hops
    have HCO : Hid (∀ w, RN w fa f → Calls Tryz.prog 46 #[.slice fa f.length fc] w fun e w' => RetN (fCompact f) e w w') := Lib.hid fun w h => compactF_any fa fc f w h
    generalize fCompact f = c at *
    go_enter Tryz.func45, Tryz.ntmps45
    go_wp2_with (first | (go_at_call 89; refine (HC.out).mono ?_; rintro e w1 ⟨rfl, hE1⟩; rw [H1.out]) | (go_at_call 90; refine (frags_any _ _ _ _ (HF.out.ext hE1)).mono ?_; rintro e w2 ⟨rfl, hE2⟩) | (go_at_call 91; refine (fits_any fa fc f 0 N _ (HF.out.ext (hE1.trans hE2))).mono ?_; rintro e w3 ⟨rfl, hE3⟩; rw [H7.out]) | (go_at_call 46; refine (HCO.out _ (HF.out.ext ((hE1.trans hE2).trans hE3))).mono ?_; rintro e w4 ⟨ca, cc, rfl, hrc, hE4⟩))
    have hEE : Ext w (w4.alloc (.cells #[.slice ca c.length cc] 44)) := (((hE1.trans hE2).trans hE3).trans hE4).alloc _
    have hc0 : (w4.alloc (.cells #[.slice ca c.length cc] 44)).cell? ⟨w4.heap.size, 0, none⟩ = some (.slice ca c.length cc) := by simp
    have hrc2 := hrc.ext ((Ext.refl w4).alloc (.cells #[.slice ca c.length cc] 44))
    have HEE := Lib.hid hEE
    have HRC := Lib.hid hrc2
    clear hEE hrc hrc2 hE1 hE2 hE3 hE4
    generalize w4.heap.size = cb at *
    generalize w4.alloc (.cells #[.slice ca c.length cc] 44) = w5 at *
    go_loopw [8, 34] (fun s i wr => ∃ k : Nat, k ≤ 2 ^ N ∧ i = .int .i64 (k : Int) ∧ s = .int .u64 (un (setTo (fun v => pv v.testBit (rt f)) k)) ∧ Ext w5 wr) (fun _ i _ => 2 ^ N - (intOf i).toNat)
    case atStart => exact ⟨0, Nat.zero_le _, rfl, rfl, Ext.refl _⟩
    case round =>
      obtain ⟨k, hk, rfl, rfl, hE⟩ := hrel
      have hk64 : k ≤ 64 := by omega
      by_cases hlt : k < 2 ^ N
      · have hd1 : decide ((k : Int) < p2 N) = true := decide_eq_true (by unfold p2; omega)
        have hE2 := hE.alloc (.cells #[.int .i64 (k : Int)] 3)
        have z1 : (wr.alloc (.cells #[.int .i64 (k : Int)] 3)).cell? ⟨wr.heap.size, 0, none⟩ = some (.int .i64 (k : Int)) := by simp
        have z2 := hE2.cell hc0
        have HE2 := Lib.hid hE2
        have HST : Hid (setTo (fun v => pv v.testBit (rt f)) (k + 1) = if pv k.testBit (rt f) then setTo (fun v => pv v.testBit (rt f)) k ||| 1#64 <<< k else setTo (fun v => pv v.testBit (rt f)) k) := Lib.hid rfl
        have HV : Hid (Calls Tryz.prog 92 #[.slice ca c.length cc, .func (.func 93) #[] #[.pointer (some ⟨wr.heap.size, 0, none⟩), .pointer (some ⟨cb, 0, none⟩)]] (wr.alloc (.cells #[.int .i64 (k : Int)] 3)) fun en w' => en = .returned (.bool (pv k.testBit (rt c))) ∧ Ext (wr.alloc (.cells #[.int .i64 (k : Int)] 3)) w') :=
          Lib.hid (bvalue_any 93 _ _ ca cc c _ (HRC.out.ext hE2) HW.out HL1.out hcl k.testBit HOP.out cf_table1 fun W j hW hj =>
            table1_any k j wr.heap.size cb ca cc c W (by omega) (hW.cell z1) (hW.cell z2) ((HRC.out.ext hE2).ext hW) hj (nd_i HW.out hj))
        rw [HRT.out] at HV
        cases hb : pv k.testBit (rt f)
        · have hs : setTo (fun v => pv v.testBit (rt f)) (k + 1) = setTo (fun v => pv v.testBit (rt f)) k := by rw [HST.out, hb]; simp
          have HS := Lib.hid hs
          rw [hb] at HV
          clear hs HST hb
          go_wp2_with (go_at_call 92; refine HV.out.mono ?_; rintro _ w6 ⟨rfl, hE6⟩)
          go_roundw
          case rel => exact ⟨k + 1, hlt, by go_num, by rw [HS.out], HE2.out.trans hE6⟩
          case measure => simp [intOf]; omega
        · have hs : setTo (fun v => pv v.testBit (rt f)) (k + 1) = setTo (fun v => pv v.testBit (rt f)) k ||| 1#64 <<< k := by rw [HST.out, hb]; simp
          have HS := Lib.hid hs
          rw [hb] at HV
          clear hs HST hb
          go_wp2_with (go_at_call 92; refine HV.out.mono ?_; rintro _ w6 ⟨rfl, hE6⟩; have z3 := hE6.cell z1; have z4 := hE6.size)
          go_roundw
          case rel => exact ⟨k + 1, hlt, by go_num, by rw [HS.out], HE2.out.trans hE6⟩
          case measure => simp [intOf]; omega
      · have hd1 : decide ((k : Int) < p2 N) = false := decide_eq_false (by unfold p2; omega)
        have hkk : 2 ^ N = k := by omega
        rw [hkk] at HN2
        clear hkk hp
        go_wp2
        go_ret2
        exact ⟨by rw [HN.out, HN2.out]; rfl, HEE.out.trans hE⟩
end Wt

/- Walk: announce.Update (as in XUpd, without the reference). -/
namespace Wt
open Go Go.RowKit Go.Maps Go.Proofs Fm

set_option maxRecDepth 20000 in
set_option maxHeartbeats 4000000 in
theorem update_any (M : Mo) (va ra : Option Addr) (vc rc : Nat) (fa : Option Addr) (fc : Nat) (f : List Nd) (w : World) (hm : RM w va ra M) (hf : RN w fa f) (hT : Tab w) :
    Calls Tryz.prog 73 #[.agg #[.int .i64 M.worlds, .slice va M.val.length vc, .slice ra M.rel.length rc], .slice fa f.length fc] w fun e w' => RetRO (upM M f) (natI (upL M f)) (upErr M f) e w w' := by
  have hbx := MoBox.new w M.worlds M.val M.rel va vc ra rc 28
  have hE0 : Ext w ((w.alloc (.cells #[.int .i64 M.worlds, .slice va M.val.length vc, .slice ra M.rel.length rc] 28)).alloc (.cells #[.int .i64 0, .slice none 0 0, .slice none 0 0] 28)) := ((Ext.refl w).alloc _).alloc _
  have hbx0 := hbx.ext ((Ext.refl _).alloc (.cells #[.int .i64 0, .slice none 0 0, .slice none 0 0] 28))
  have hm0 := hm.ext hE0
  have hf0 := hf.ext hE0
  have HM0 := Lib.hid hm0
  have HT := Lib.hid (hT.ext hE0)
  obtain ⟨m0, m1, m2⟩ := hbx0
  dsimp only at m0 m1 m2
  have HE := Lib.hid hE0
  have HR := Lib.hid (OutAt.new1 w (.cells #[.int .i64 M.worlds, .slice va M.val.length vc, .slice ra M.rel.length rc] 28) (.int .i64 0) (.slice none 0 0) (.slice none 0 0) 28)
  clear hm hf hbx hE0 hT
  by_cases hM : reqErr M f = 0
  rotate_left
  · have hq : (reqErr M f != 0) = true := by simpa using hM
    have hn : upErr M f = reqErr M f := if_pos hM
    have hn2 : upM M f = ⟨0, [], []⟩ := if_neg (by rw [hn]; exact hM)
    have hn3 : upL M f = [] := if_neg (by rw [hn]; exact hM)
    clear hM
    have HN := Lib.hid hn
    have HN2 := Lib.hid hn2
    have HN3 := Lib.hid hn3
    clear hn hn2 hn3
    go_enter Tryz.func73, Tryz.ntmps73
    go_wp2_with ((go_at_call 48; refine (holds_any M va ra vc rc fa fc f _ hm0 hf0).mono ?_; rintro e w1 ⟨rfl, hE1⟩; obtain ⟨r0, r1, r2, rfz⟩ := HR.out.ext hE1; have f0 := rfz 0; have f1 := rfz 1; have f2 := rfz 2; have HO : Hid (OutAt w1 _ _ _ _) := Lib.hid ⟨r0, r1, r2, rfz⟩; clear rfz; have q0 := hE1.cell m0; have q1 := hE1.cell m1; have q2 := hE1.cell m2; have HE1 := Lib.hid (HE.out.trans hE1)))
    obtain ⟨d0, d1, d2, -⟩ := ((HO.out.set0 (.int .i64 0)).set1 (.slice none 0 0)).set2 (.slice none 0 0)
    have hEx : Ext w (((w1.setCell ⟨w.heap.size + 1, 0, none⟩ (.int .i64 0)).setCell ⟨w.heap.size + 1, 1, none⟩ (.slice none 0 0)).setCell ⟨w.heap.size + 1, 2, none⟩ (.slice none 0 0)) := ((HE1.out.setCell (by simp) _).setCell (by simp) _).setCell (by simp) _
    generalize (((w1.setCell ⟨w.heap.size + 1, 0, none⟩ (.int .i64 0)).setCell ⟨w.heap.size + 1, 1, none⟩ (.slice none 0 0)).setCell ⟨w.heap.size + 1, 2, none⟩ (.slice none 0 0)) = W2 at *
    refine bodyPost_ret (v := .tuple #[.agg #[(.int .i64 0), (.slice none 0 0), (.slice none 0 0)], .slice none 0 0, .int .i64 (reqErr M f)]) ?_ rfl ?_
    · rw [results_cell_two rfl]
      go_simp
    · exact ⟨none, none, none, 0, 0, 0, [], by rw [HN.out, HN2.out, HN3.out]; rfl, by rw [HN2.out]; exact FrM.zero _ _ _, fun w'' _ => by rw [HN3.out]; exact RI.nil _ _, hEx⟩
  have hq : (reqErr M f != 0) = false := by simp [hM]
  by_cases hs : holdsOf M f = 0#64
  · have hq2 : (holdsOf M f == 0#64) = true := by simp [hs]
    have hn : upErr M f = 11 := by unfold upErr; rw [if_neg (by simp [hM]), if_pos hs]
    have hn2 : upM M f = ⟨0, [], []⟩ := if_neg (by rw [hn]; decide)
    have hn3 : upL M f = [] := if_neg (by rw [hn]; decide)
    have HQ := Lib.hid hM
    clear hs hM
    have HN := Lib.hid hn
    have HN2 := Lib.hid hn2
    have HN3 := Lib.hid hn3
    clear hn hn2 hn3
    go_enter Tryz.func73, Tryz.ntmps73
    go_wp2_with ((go_at_call 48; refine (holds_any M va ra vc rc fa fc f _ hm0 hf0).mono ?_; rintro e w1 ⟨rfl, hE1⟩; obtain ⟨r0, r1, r2, rfz⟩ := HR.out.ext hE1; have f0 := rfz 0; have f1 := rfz 1; have f2 := rfz 2; have HO : Hid (OutAt w1 _ _ _ _) := Lib.hid ⟨r0, r1, r2, rfz⟩; clear rfz; have q0 := hE1.cell m0; have q1 := hE1.cell m1; have q2 := hE1.cell m2; have HE1 := Lib.hid (HE.out.trans hE1)))
    obtain ⟨d0, d1, d2, -⟩ := ((HO.out.set0 (.int .i64 0)).set1 (.slice none 0 0)).set2 (.slice none 0 0)
    have hEx : Ext w (((w1.setCell ⟨w.heap.size + 1, 0, none⟩ (.int .i64 0)).setCell ⟨w.heap.size + 1, 1, none⟩ (.slice none 0 0)).setCell ⟨w.heap.size + 1, 2, none⟩ (.slice none 0 0)) := ((HE1.out.setCell (by simp) _).setCell (by simp) _).setCell (by simp) _
    generalize (((w1.setCell ⟨w.heap.size + 1, 0, none⟩ (.int .i64 0)).setCell ⟨w.heap.size + 1, 1, none⟩ (.slice none 0 0)).setCell ⟨w.heap.size + 1, 2, none⟩ (.slice none 0 0)) = W2 at *
    refine bodyPost_ret (v := .tuple #[.agg #[(.int .i64 0), (.slice none 0 0), (.slice none 0 0)], .slice none 0 0, .int .i64 11]) ?_ rfl ?_
    · rw [results_cell_two rfl]
      go_simp
    · exact ⟨none, none, none, 0, 0, 0, [], by rw [HN.out, HN2.out, HN3.out]; rfl, by rw [HN2.out]; exact FrM.zero _ _ _, fun w'' _ => by rw [HN3.out]; exact RI.nil _ _, hEx⟩
  have hq2 : (holdsOf M f == 0#64) = false := by simpa using hs
  have hup := upErr_mk hM hs
  obtain ⟨e1, e2, e3⟩ := up_res hup
  have HRS : Hid (∀ w, RM w va ra M → Tab w → Calls Tryz.prog 109 #[.agg #[.int .i64 M.worlds, .slice va M.val.length vc, .slice ra M.rel.length rc], .int .u64 (un (holdsOf M f))] w fun e w' => RetRO (upM M f) (natI (upL M f)) 0 e w w') := Lib.hid fun w h h2 => by
    have := restrictO_any M va ra vc rc (holdsOf M f) w h h2
    rw [e1, e2, e3, hup] at this; exact this
  have HUP := Lib.hid hup
  clear hM hs e1 e2 e3 hup
  generalize upM M f = A at *
  generalize natI (upL M f) = L at *
  go_enter Tryz.func73, Tryz.ntmps73
  go_wp2_with (first | (go_at_call 48; refine (holds_any M va ra vc rc fa fc f _ hm0 hf0).mono ?_; rintro e w1 ⟨rfl, hE1⟩; obtain ⟨r0, r1, r2, rfz⟩ := HR.out.ext hE1; have f0 := rfz 0; have f1 := rfz 1; have f2 := rfz 2; have HO : Hid (OutAt w1 _ _ _ _) := Lib.hid ⟨r0, r1, r2, rfz⟩; clear rfz; have q0 := hE1.cell m0; have q1 := hE1.cell m1; have q2 := hE1.cell m2; have HE1 := Lib.hid (HE.out.trans hE1)) | (go_at_call 109; refine (HRS.out _ (HM0.out.ext hE1) (HT.out.ext hE1)).mono ?_; rintro e w3 ⟨va2, ra2, la, vc2, rc2, lc, svs, rfl, hm3, hu3, hE3⟩; obtain ⟨r0, r1, r2, rfz⟩ := HO.out.ext hE3; have f0 := rfz 0; have f1 := rfz 1; have f2 := rfz 2; have HO3 : Hid (OutAt w3 _ _ _ _) := Lib.hid ⟨r0, r1, r2, rfz⟩; clear rfz; have HM3 := Lib.hid hm3; have HU3 := Lib.hid hu3; have HB3 := Lib.hid hE3; have hw1s := hE1.size; have HE3 := Lib.hid (HE1.out.trans hE3); clear hm3 hu3))
  simp at hw1s
  have hk3 : ∀ (u : Value) (k : Nat) (W : World), Agree (w.heap.size + 2) W (W.setCell ⟨w.heap.size + 1, k, none⟩ u) := fun u k W j hj _ => heap_setCell_other W ⟨w.heap.size + 1, k, none⟩ j u (by simp; omega)
  have hag : Agree (w.heap.size + 2) w3 (((w3.setCell ⟨w.heap.size + 1, 0, none⟩ (.int .i64 A.worlds)).setCell ⟨w.heap.size + 1, 1, none⟩ (.slice va2 A.val.length vc2)).setCell ⟨w.heap.size + 1, 2, none⟩ (.slice ra2 A.rel.length rc2)) := fun j hj hl => ((hk3 _ _ _ j hj (by simpa [World.setCell] using hl)).trans (hk3 _ _ _ j hj (by simpa [World.setCell] using hl))).trans (hk3 _ _ _ j hj hl)
  have hsz : (((w3.setCell ⟨w.heap.size + 1, 0, none⟩ (.int .i64 A.worlds)).setCell ⟨w.heap.size + 1, 1, none⟩ (.slice va2 A.val.length vc2)).setCell ⟨w.heap.size + 1, 2, none⟩ (.slice ra2 A.rel.length rc2)).heap.size = w3.heap.size := by simp
  obtain ⟨d0, d1, d2, -⟩ := ((HO3.out.set0 (.int .i64 A.worlds)).set1 (.slice va2 A.val.length vc2)).set2 (.slice ra2 A.rel.length rc2)
  have hEx : Ext w (((w3.setCell ⟨w.heap.size + 1, 0, none⟩ (.int .i64 A.worlds)).setCell ⟨w.heap.size + 1, 1, none⟩ (.slice va2 A.val.length vc2)).setCell ⟨w.heap.size + 1, 2, none⟩ (.slice ra2 A.rel.length rc2)) := ((HE3.out.setCell (by simp) _).setCell (by simp) _).setCell (by simp) _
  generalize (((w3.setCell ⟨w.heap.size + 1, 0, none⟩ (.int .i64 A.worlds)).setCell ⟨w.heap.size + 1, 1, none⟩ (.slice va2 A.val.length vc2)).setCell ⟨w.heap.size + 1, 2, none⟩ (.slice ra2 A.rel.length rc2)) = W2 at *
  refine bodyPost_ret (v := .tuple #[.agg #[(.int .i64 A.worlds), (.slice va2 A.val.length vc2), (.slice ra2 A.rel.length rc2)], .slice la L.length lc, .int .i64 0]) ?_ rfl ?_
  · rw [results_cell_two rfl]
    go_simp
  · refine ⟨va2, ra2, la, vc2, rc2, lc, svs, by rw [HUP.out], (HM3.out.mono (by omega) |>.agree hag).mono (by omega), fun w'' ha => ?_, hEx⟩
    refine HU3.out w'' fun j hj hl => ?_
    exact (ha j (by omega) (by rw [hsz]; exact hl)).trans (hag j (by omega) hl)

end Wt

/- The state of a walk through announcements: the model now, the worlds of the first one that its worlds were. -/
namespace Wt
open Go Go.RowKit Go.Maps Go.Proofs Fm

/-- Two worlds agree from a block on, but for one block. -/
def AgreeX (B b : Nat) (w' w'' : World) : Prop := ∀ k, B ≤ k → k ≠ b → k < w'.heap.size → w''.heap[k]? = w'.heap[k]?
theorem AgreeX.of {B b : Nat} {w' w'' : World} (h : Agree B w' w'') : AgreeX B b w' w'' := fun k hk _ hl => h k hk hl
theorem AgreeX.ext {B b : Nat} {w w' w'' : World} (e : Ext w w') (h : AgreeX B b w' w'') : AgreeX B b w w'' := fun k hk hb hl => (h k hk hb (Nat.lt_of_lt_of_le hl e.size)).trans (e.block k hl)
theorem AgreeX.set {B b k : Nat} {w w'' : World} {u : Value} (h : AgreeX B b (w.setCell ⟨b, k, none⟩ u) w'') : AgreeX B b w w'' := fun j hj hb hl => by
  have h1 := h j hj hb (by simpa [World.setCell] using hl)
  rw [h1]
  exact heap_setCell_other w ⟨b, k, none⟩ j u (by simpa using hb)
theorem AgreeX.agree {B b B' : Nat} {w w'' : World} (h : AgreeX B b w w'') (h1 : B ≤ B') (h2 : b < B' ∨ w.heap.size ≤ b) : Agree B' w w'' := fun k hk hl => h k (by omega) (by omega) hl
/-- The model now lies in a variable; its memory and the list of worlds lie elsewhere. -/
structure NowAt (B b : Nat) (A : Mo) (ws : List Nat) (va ra wa : Option Addr) (vc rc : Nat) (wr : World) : Prop where
  lo : B ≤ b
  out : OutAt wr b (.int .i64 A.worlds) (.slice va A.val.length vc) (.slice ra A.rel.length rc)
  keep : ∀ w'', AgreeX B b wr w'' → RM w'' va ra A ∧ RI w'' wa (natI ws)
section
variable {B b : Nat} {A : Mo} {ws : List Nat} {va ra wa : Option Addr} {vc rc : Nat} {wr : World}
theorem NowAt.ext {w' : World} (h : NowAt B b A ws va ra wa vc rc wr) (e : Ext wr w') : NowAt B b A ws va ra wa vc rc w' :=
  ⟨h.lo, h.out.ext e, fun w'' ha => h.keep w'' (ha.ext e)⟩
theorem NowAt.rm (h : NowAt B b A ws va ra wa vc rc wr) : RM wr va ra A := (h.keep wr fun _ _ _ _ => rfl).1
theorem NowAt.ri (h : NowAt B b A ws va ra wa vc rc wr) : RI wr wa (natI ws) := (h.keep wr fun _ _ _ _ => rfl).2
theorem NowAt.new {w0 w1 : World} {svs : List Value} (hm : FrM w0.heap.size w1 va ra vc rc A svs) (hu : ∀ w'', Agree w0.heap.size w1 w'' → RI w'' wa (natI ws)) (hB : B ≤ w0.heap.size) (hs : w0.heap.size ≤ w1.heap.size) (T : Nat) :
    NowAt B w1.heap.size A ws va ra wa vc rc (w1.alloc (.cells #[.int .i64 A.worlds, .slice va A.val.length vc, .slice ra A.rel.length rc] T)) := by
  refine ⟨by omega, OutAt.new _ _ _ _ _, fun w'' ha => ?_⟩
  have ha := ha.ext ((Ext.refl w1).alloc _)
  have ha2 : Agree w0.heap.size w1 w'' := ha.agree hB (.inr (Nat.le_refl _))
  exact ⟨(hm.agree ha2).rm, hu w'' ha2⟩
theorem NowAt.newC {w1 : World} {C : Nat} {svs : List Value} (hm : FrM C w1 va ra vc rc A svs) (hu : ∀ w'', Agree C w1 w'' → RI w'' wa (natI ws)) (hB : B ≤ C) (hs : C ≤ w1.heap.size) (T : Nat) :
    NowAt B w1.heap.size A ws va ra wa vc rc (w1.alloc (.cells #[.int .i64 A.worlds, .slice va A.val.length vc, .slice ra A.rel.length rc] T)) := by
  refine ⟨by omega, OutAt.new _ _ _ _ _, fun w'' ha => ?_⟩
  have ha := ha.ext ((Ext.refl w1).alloc _)
  have ha2 : Agree C w1 w'' := ha.agree hB (.inr (Nat.le_refl _))
  exact ⟨(hm.agree ha2).rm, hu w'' ha2⟩
theorem NowAt.set {W : World} {x y z : Value} (h : OutAt W b x y z) (hlo : B ≤ b) (hk : ∀ w'', AgreeX B b W w'' → RM w'' va ra A ∧ RI w'' wa (natI ws)) :
    NowAt B b A ws va ra wa vc rc (((W.setCell ⟨b, 0, none⟩ (.int .i64 A.worlds)).setCell ⟨b, 1, none⟩ (.slice va A.val.length vc)).setCell ⟨b, 2, none⟩ (.slice ra A.rel.length rc)) :=
  ⟨hlo, ((h.set0 _).set1 _).set2 _, fun w'' ha => hk w'' ha.set.set.set⟩
end
end Wt
