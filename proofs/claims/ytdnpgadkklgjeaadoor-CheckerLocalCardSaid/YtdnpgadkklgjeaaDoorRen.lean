/- Walk: model.Rename, at a right model. -/
import Derived.Test.YtdnpgadkklgjeaaDoorRes
import Derived.Test.YtdnpgadkklgjeaaDoorOwn
namespace Wt
open Go Go.RowKit Go.Maps Go.Proofs Fm

def ivn (n : Nat) : Value := .int .i64 (n : Int)
/-- The renaming is injective, and ws is its inverse. -/
structure RenOk (N : Nat) (tl : List Int) (ws : List Nat) : Prop where
  lenT : tl.length = N
  len : ws.length = N
  small : ∀ k, k < N → nth ws k < N
  put : ∀ i, i < N → ∃ k : Nat, k < N ∧ nth tl i = (k : Int) ∧ nth ws k = i
/-- The rounds of Rename. -/
structure RnI (N : Nat) (tl : List Int) (i : Nat) (S : BitVec 64) (D : List Nat) : Prop where
  len : D.length = N
  seen : ∀ i', i' < i → ∀ k : Nat, nth tl i' = (k : Int) → bt S k = true
  put : ∀ i', i' < i → ∃ k : Nat, k < N ∧ nth tl i' = (k : Int) ∧ nth D k = i'
  small : ∀ k, k < N → nth D k < N
theorem nth_set {α : Type} [Inhabited α] {l : List α} {k j : Nat} {x : α} (hk : k < l.length) : nth (l.set k x) j = if j = k then x else nth l j := by
  unfold nth
  simp only [List.getD_eq_getElem?_getD, List.getElem?_set]
  by_cases h : k = j
  · subst h; simp [hk]
  · have : ¬ j = k := fun e => h e.symm
    simp [h, this]
theorem RnI.step {N : Nat} {tl : List Int} {i k : Nat} {S : BitVec 64} {D : List Nat} (h : RnI N tl i S D) (hi : i < N) (h64 : N ≤ 64) (hk : k < N) (e : nth tl i = (k : Int)) (hb : bt S k = false) : RnI N tl (i + 1) (S ||| 1#64 <<< k) (D.set k i) where
  len := by rw [List.length_set]; exact h.len
  seen := fun i' hi' j hj => by
    rw [bt_or]
    rcases Nat.lt_or_ge i' i with h1 | h1
    · rw [h.seen i' h1 j hj]; rfl
    · obtain rfl : i' = i := by omega
      have : j = k := by rw [e] at hj; omega
      subst this
      rw [bt_shl1]; simp; right; omega
  put := fun i' hi' => by
    rcases Nat.lt_or_ge i' i with h1 | h1
    · obtain ⟨j, h2, h3, h4⟩ := h.put i' h1
      refine ⟨j, h2, h3, ?_⟩
      rw [nth_set (by rw [h.len]; exact hk), if_neg, h4]
      rintro rfl
      have := h.seen i' h1 j h3
      rw [hb] at this; cases this
    · obtain rfl : i' = i := by omega
      exact ⟨k, hk, e, by rw [nth_set (by rw [h.len]; exact hk), if_pos rfl]⟩
  small := fun j hj => by
    rw [nth_set (by rw [h.len]; exact hk)]
    split
    · exact hi
    · exact h.small j hj
def RetRen (M : Mo) (N : Nat) (tl : List Int) (e : Ending) (w w' : World) : Prop := ∃ (A : Mo) (va ra : Option Addr) (vc rc : Nat) (c : Int), e = .returned (.tuple #[.agg #[.int .i64 A.worlds, .slice va A.val.length vc, .slice ra A.rel.length rc], .int .i64 c]) ∧ (∀ w'', Agree w.heap.size w' w'' → RM w'' va ra A) ∧ Ext w w' ∧ (c = 0 → ∃ ws, A = arrM M ws ∧ RenOk N tl ws)
theorem RI_of_OGn {w : World} {base T g n c : Nat} {l : List Nat} (h : OG w base T ivn g n c l) (hn : n ≤ 140737488355328) : RI w (some ⟨g, 0, none⟩) (natI l) := by
  have hl := h.len
  refine ⟨by simp [natI]; omega, fun k hk => ⟨g, 0, rfl, ?_⟩⟩
  have hk2 : k < l.length := by simpa [natI] using hk
  rw [Nat.zero_add, nth_natI hk2]
  exact h.cell (by omega)
theorem arrange_len (M : Mo) (va ra : Option Addr) (vc rc : Nat) (ws : List Nat) (wa : Option Addr) (wc n : Nat) (w : World) (N : Nat) (hn : ws.length = n) (ok : MoOk M N) (hm : RM w va ra M) (hw : RI w wa (natI ws)) (hws : ws.length ≤ 64) (hlt : ∀ i, i < ws.length → nth ws i < N) :
    Calls Tryd.prog 29 #[.agg #[.int .i64 M.worlds, .slice va M.val.length vc, .slice ra M.rel.length rc], .slice wa n wc] w fun e w' => RetMA (arrM M ws) e w w' := by
  subst hn; exact arrange_any M va ra vc rc ws wa wc w N ok hm hw hws hlt
/-- The state of the rounds. -/
structure RnS (W0 wr : World) (g N : Nat) (tl : List Int) (i : Nat) (S : BitVec 64) (D : List Nat) : Prop where
  e : Ext W0 wr
  own : OG wr W0.heap.size 3 ivn g N N D
  st : RnI N tl i S D
def RnE (W0 wr : World) (g N : Nat) (tl : List Int) (i : Nat) (sv : Value) : Prop := ∃ S D, sv = .int .u64 (un S) ∧ RnS W0 wr g N tl i S D
set_option maxRecDepth 20000 in
set_option maxHeartbeats 4000000 in
theorem rename_any (M : Mo) (va ra : Option Addr) (vc rc : Nat) (ta : Option Addr) (tc : Nat) (tl : List Int) (N : Nat) (w : World) (hm : RM w va ra M) (hto : RI w ta tl) (ok : MoOk M N) :
    Calls Tryd.prog 8 #[.agg #[.int .i64 M.worlds, .slice va M.val.length vc, .slice ra M.rel.length rc], .slice ta tl.length tc] w fun e w' => RetRen M N tl e w w' := by
  have hbx := MoBox.new w M.worlds M.val M.rel va vc ra rc 25
  have hE0 : Ext w ((w.alloc (.cells #[.int .i64 M.worlds, .slice va M.val.length vc, .slice ra M.rel.length rc] 25)).alloc (.cells #[.int .i64 0, .slice none 0 0, .slice none 0 0] 25)) := ((Ext.refl w).alloc _).alloc _
  have hbx0 := hbx.ext ((Ext.refl _).alloc (.cells #[.int .i64 0, .slice none 0 0, .slice none 0 0] 25))
  have hm0 := hm.ext hE0
  have HM0 := Lib.hid hm0
  have HBX0 := Lib.hid hbx0
  have HTo := Lib.hid hto
  obtain ⟨m0, m1, m2⟩ := hbx0
  dsimp only at m0 m1 m2
  have HE := Lib.hid hE0
  have HR := Lib.hid (OutAt.new1 w (.cells #[.int .i64 M.worlds, .slice va M.val.length vc, .slice ra M.rel.length rc] 25) (.int .i64 0) (.slice none 0 0) (.slice none 0 0) 25)
  have HCK := Lib.hid ok.check
  have hN64 := ok.most
  have hN1 := ok.one
  have HOK := Lib.hid ok
  have HW := Lib.hid ok.worlds
  clear hm hbx hE0 hto ok
  by_cases hlen : (tl.length : Int) = M.worlds
  rotate_left
  · have hq : ((tl.length : Int) != M.worlds) = true := by simpa using hlen
    clear hlen
    go_enter Tryd.func8, Tryd.ntmps8
    go_wp2_with (go_at_call 28; refine (modelCheck_any M va ra vc rc _ hm0).mono ?_; rintro e w1 ⟨rfl, hE1⟩; rw [HCK.out]; obtain ⟨r0, r1, r2, rfz⟩ := HR.out.ext hE1; have f0 := rfz 0; have f1 := rfz 1; have f2 := rfz 2; have HOX : Hid (OutAt w1 _ _ _ _) := Lib.hid ⟨r0, r1, r2, rfz⟩; clear rfz; have q0 := hE1.cell m0; have q1 := hE1.cell m1; have q2 := hE1.cell m2; have HE1 := Lib.hid (HE.out.trans hE1); have HT1 := Lib.hid (HTo.out.ext (HE.out.trans hE1)); have HM1 := Lib.hid (HM0.out.ext hE1); have HB1 := Lib.hid hE1)
    obtain ⟨d0, d1, d2, -⟩ := ((HOX.out.set0 (.int .i64 0)).set1 (.slice none 0 0)).set2 (.slice none 0 0)
    have hEx : Ext w (((w1.setCell ⟨w.heap.size + 1, 0, none⟩ (.int .i64 0)).setCell ⟨w.heap.size + 1, 1, none⟩ (.slice none 0 0)).setCell ⟨w.heap.size + 1, 2, none⟩ (.slice none 0 0)) := ((HE1.out.setCell (by simp) _).setCell (by simp) _).setCell (by simp) _
    generalize ((w1.setCell ⟨w.heap.size + 1, 0, none⟩ (.int .i64 0)).setCell ⟨w.heap.size + 1, 1, none⟩ (.slice none 0 0)).setCell ⟨w.heap.size + 1, 2, none⟩ (.slice none 0 0) = W2 at *
    refine bodyPost_ret (v := .tuple #[.agg #[(.int .i64 0), (.slice none 0 0), (.slice none 0 0)], .int .i64 1]) ?_ rfl ?_
    · rw [results_cell_tmp rfl]
      go_simp
    · exact ⟨⟨0, [], []⟩, none, none, 0, 0, 1, rfl, fun w'' _ => ⟨RU.nil _ _, RR.nil _ _⟩, hEx, fun h => by cases h⟩
  have hq : ((tl.length : Int) != M.worlds) = false := by simp [hlen]
  have hTl : tl.length = N := by have := HW.out; omega
  have hqN : ((N : Int) != M.worlds) = false := by rw [HW.out]; simp
  have mk1 := fun (w : World) => run_make_row' (P := Tryd.prog) 27 3 (.int .i64 0) 8 Tryd.underlying27 int_info rfl .i64 .i64 N (by omega) (by omega) w
  clear hlen
  go_enter Tryd.func8, Tryd.ntmps8
  go_wp2_with (go_at_call 28; refine (modelCheck_any M va ra vc rc _ hm0).mono ?_; rintro e w1 ⟨rfl, hE1⟩; rw [HCK.out]; obtain ⟨r0, r1, r2, rfz⟩ := HR.out.ext hE1; have f0 := rfz 0; have f1 := rfz 1; have f2 := rfz 2; have HOX : Hid (OutAt w1 _ _ _ _) := Lib.hid ⟨r0, r1, r2, rfz⟩; clear rfz; have q0 := hE1.cell m0; have q1 := hE1.cell m1; have q2 := hE1.cell m2; have HE1 := Lib.hid (HE.out.trans hE1); have HT1 := Lib.hid (HTo.out.ext (HE.out.trans hE1)); have HM1 := Lib.hid (HM0.out.ext hE1); have HB1 := Lib.hid hE1)
  have hS0 : RnS w1 (w1.alloc (.cells (madeCells #[.int .i64 0] N) 3)) w1.heap.size N tl 0 0#64 (List.replicate N 0) :=
    ⟨(Ext.refl _).alloc _, OG.made (enc := ivn) w1 N 0 (Nat.le_refl _) (by omega), ⟨by simp, fun i' h => absurd h (Nat.not_lt_zero _), fun i' h => absurd h (Nat.not_lt_zero _), fun k hk => by
      unfold nth; simp [List.getD, hk]; omega⟩⟩
  have HS0 := Lib.hid hS0
  have hw1s : w.heap.size + 2 ≤ w1.heap.size := by have := HB1.out.size; simp at this; omega
  clear hS0 mk1 q0 q1 q2 r0 r1 r2 f0 f1 f2 m0 m1 m2
  have HBOX1 : Hid (MoBox w1 w.heap.size M va vc ra rc) := Lib.hid ((HBX0.out).ext HB1.out)
  generalize hg : w1.heap.size = g at HS0 hw1s ⊢
  generalize (w1.alloc (.cells (madeCells #[.int .i64 0] N) 3)) = wl at HS0 ⊢
  go_loopw [8, 28] (fun sv i wr => ∃ k : Nat, k ≤ N ∧ i = .int .i64 (k : Int) ∧ RnE w1 wr g N tl k sv) (fun _ i _ => N - (intOf i).toNat)
  case atStart => exact ⟨0, Nat.zero_le _, rfl, _, _, rfl, HS0.out⟩
  case round =>
    obtain ⟨i, hi, rfl, S, D, rfl, hR⟩ := hrel
    have HRn := Lib.hid hR
    obtain ⟨r0, r1, r2, rfz⟩ := HOX.out.ext hR.e
    have f0 := rfz 0
    have f1 := rfz 1
    have f2 := rfz 2
    have HOX : Hid (OutAt wr (w.heap.size + 1) (.int .i64 0) (.slice none 0 0) (.slice none 0 0)) := Lib.hid ⟨r0, r1, r2, rfz⟩
    have HEr := Lib.hid (HE1.out.trans hR.e)
    obtain ⟨m0, m1, m2⟩ := HBOX1.out.ext hR.e
    clear rfz
    by_cases hil : i < N
    · obtain ⟨b, off, rfl, hb, hc⟩ := (HT1.out.ext hR.e).get (k := i) (by omega)
      clear hR
      by_cases hx0 : nth tl i < 0
      · have e1 : decide (nth tl i < 0) = true := by simpa using hx0
        clear hx0
        go_wp2
        obtain ⟨d0, d1, d2, -⟩ := ((HOX.out.set0 (.int .i64 0)).set1 (.slice none 0 0)).set2 (.slice none 0 0)
        have hEx : Ext w (((wr.setCell ⟨w.heap.size + 1, 0, none⟩ (.int .i64 0)).setCell ⟨w.heap.size + 1, 1, none⟩ (.slice none 0 0)).setCell ⟨w.heap.size + 1, 2, none⟩ (.slice none 0 0)) := ((HEr.out.setCell (by simp) _).setCell (by simp) _).setCell (by simp) _
        generalize ((wr.setCell ⟨w.heap.size + 1, 0, none⟩ (.int .i64 0)).setCell ⟨w.heap.size + 1, 1, none⟩ (.slice none 0 0)).setCell ⟨w.heap.size + 1, 2, none⟩ (.slice none 0 0) = W2 at *
        refine bodyPost_ret (v := .tuple #[.agg #[(.int .i64 0), (.slice none 0 0), (.slice none 0 0)], .int .i64 1]) ?_ rfl ?_
        · rw [results_cell_tmp rfl]
          go_simp
        · exact ⟨⟨0, [], []⟩, none, none, 0, 0, 1, rfl, fun w'' _ => ⟨RU.nil _ _, RR.nil _ _⟩, hEx, fun h => by cases h⟩
      · have e1 : decide (nth tl i < 0) = false := by simpa using hx0
        obtain ⟨k, hk⟩ := Int.eq_ofNat_of_zero_le (show 0 ≤ nth tl i by omega)
        have HK := Lib.hid hk
        rw [hk] at hc e1
        by_cases hkN : k < N
        · have e2 : decide ((N : Int) ≤ (k : Int)) = false := by simp; omega
          have e3 : decide ((k : Int) ≥ (N : Int)) = false := by simp; omega
          cases hbt : bt S k
          · have hcell := HRn.out.own.cell (k := k) hkN
            have hfr := HRn.out.own.frozen k
            have hnew : RnS w1 (wr.setCell ⟨g, k, none⟩ (ivn i)) g N tl (i + 1) (S ||| 1#64 <<< k) (D.set k i) :=
              ⟨HRn.out.e.setCell (by show w1.heap.size ≤ g; omega) _, HRn.out.own.set k i, HRn.out.st.step hil hN64 hkN HK.out hbt⟩
            have HNEW := Lib.hid hnew
            clear hnew hx0 hk
            go_wp2
            go_roundw
            case rel => exact ⟨i + 1, hil, by go_num, _, _, rfl, HNEW.out⟩
            case measure => simp [intOf]; omega
          · clear hx0 hk
            go_wp2
            obtain ⟨d0, d1, d2, -⟩ := ((HOX.out.set0 (.int .i64 0)).set1 (.slice none 0 0)).set2 (.slice none 0 0)
            have hEx : Ext w (((wr.setCell ⟨w.heap.size + 1, 0, none⟩ (.int .i64 0)).setCell ⟨w.heap.size + 1, 1, none⟩ (.slice none 0 0)).setCell ⟨w.heap.size + 1, 2, none⟩ (.slice none 0 0)) := ((HEr.out.setCell (by simp) _).setCell (by simp) _).setCell (by simp) _
            generalize ((wr.setCell ⟨w.heap.size + 1, 0, none⟩ (.int .i64 0)).setCell ⟨w.heap.size + 1, 1, none⟩ (.slice none 0 0)).setCell ⟨w.heap.size + 1, 2, none⟩ (.slice none 0 0) = W2 at *
            refine bodyPost_ret (v := .tuple #[.agg #[(.int .i64 0), (.slice none 0 0), (.slice none 0 0)], .int .i64 1]) ?_ rfl ?_
            · rw [results_cell_tmp rfl]
              go_simp
            · exact ⟨⟨0, [], []⟩, none, none, 0, 0, 1, rfl, fun w'' _ => ⟨RU.nil _ _, RR.nil _ _⟩, hEx, fun h => by cases h⟩
        · have e2 : decide ((N : Int) ≤ (k : Int)) = true := by simp; omega
          have e3 : decide ((k : Int) ≥ (N : Int)) = true := by simp; omega
          clear hx0 hk
          go_wp2
          obtain ⟨d0, d1, d2, -⟩ := ((HOX.out.set0 (.int .i64 0)).set1 (.slice none 0 0)).set2 (.slice none 0 0)
          have hEx : Ext w (((wr.setCell ⟨w.heap.size + 1, 0, none⟩ (.int .i64 0)).setCell ⟨w.heap.size + 1, 1, none⟩ (.slice none 0 0)).setCell ⟨w.heap.size + 1, 2, none⟩ (.slice none 0 0)) := ((HEr.out.setCell (by simp) _).setCell (by simp) _).setCell (by simp) _
          generalize ((wr.setCell ⟨w.heap.size + 1, 0, none⟩ (.int .i64 0)).setCell ⟨w.heap.size + 1, 1, none⟩ (.slice none 0 0)).setCell ⟨w.heap.size + 1, 2, none⟩ (.slice none 0 0) = W2 at *
          refine bodyPost_ret (v := .tuple #[.agg #[(.int .i64 0), (.slice none 0 0), (.slice none 0 0)], .int .i64 1]) ?_ rfl ?_
          · rw [results_cell_tmp rfl]
            go_simp
          · exact ⟨⟨0, [], []⟩, none, none, 0, 0, 1, rfl, fun w'' _ => ⟨RU.nil _ _, RR.nil _ _⟩, hEx, fun h => by cases h⟩
    · obtain rfl : i = N := by omega
      have hlD : D.length = i := hR.st.len
      have hri := RI_of_OGn hR.own (by omega)
      have HRI := Lib.hid hri
      have hsm := hR.st.small
      have HSM := Lib.hid hsm
      clear hR hri hsm
      have HST := Lib.hid HRn.out.st
      go_wp2_with (go_at_call 29; refine (arrange_len M va ra vc rc D (some ⟨g, 0, none⟩) i i _ i hlD HOK.out (HM1.out.ext HRn.out.e) HRI.out (by omega) (fun j hj => HSM.out j (by omega))).mono ?_; rintro e w3 ⟨va2, ra2, vc2, rc2, rfl, hm3, hE3⟩; obtain ⟨r0, r1, r2, rfz⟩ := HOX.out.ext hE3; have f0 := rfz 0; have f1 := rfz 1; have f2 := rfz 2; have HO3 : Hid (OutAt w3 _ _ _ _) := Lib.hid ⟨r0, r1, r2, rfz⟩; clear rfz; have HM3 := Lib.hid hm3; have hws := HRn.out.e.size; have HE3 := Lib.hid (HEr.out.trans hE3); clear hm3)
      have hk3 : ∀ (u : Value) (k : Nat) (W : World), Agree (w.heap.size + 2) W (W.setCell ⟨w.heap.size + 1, k, none⟩ u) := fun u k W j hj _ => heap_setCell_other W ⟨w.heap.size + 1, k, none⟩ j u (by simp; omega)
      have hag : Agree (w.heap.size + 2) w3 (((w3.setCell ⟨w.heap.size + 1, 0, none⟩ (.int .i64 (arrM M D).worlds)).setCell ⟨w.heap.size + 1, 1, none⟩ (.slice va2 (arrM M D).val.length vc2)).setCell ⟨w.heap.size + 1, 2, none⟩ (.slice ra2 (arrM M D).rel.length rc2)) := fun j hj hl => ((hk3 _ _ _ j hj (by simpa [World.setCell] using hl)).trans (hk3 _ _ _ j hj (by simpa [World.setCell] using hl))).trans (hk3 _ _ _ j hj hl)
      have hsz : (((w3.setCell ⟨w.heap.size + 1, 0, none⟩ (.int .i64 (arrM M D).worlds)).setCell ⟨w.heap.size + 1, 1, none⟩ (.slice va2 (arrM M D).val.length vc2)).setCell ⟨w.heap.size + 1, 2, none⟩ (.slice ra2 (arrM M D).rel.length rc2)).heap.size = w3.heap.size := by simp
      obtain ⟨d0, d1, d2, -⟩ := ((HO3.out.set0 (.int .i64 (arrM M D).worlds)).set1 (.slice va2 (arrM M D).val.length vc2)).set2 (.slice ra2 (arrM M D).rel.length rc2)
      have hEx : Ext w (((w3.setCell ⟨w.heap.size + 1, 0, none⟩ (.int .i64 (arrM M D).worlds)).setCell ⟨w.heap.size + 1, 1, none⟩ (.slice va2 (arrM M D).val.length vc2)).setCell ⟨w.heap.size + 1, 2, none⟩ (.slice ra2 (arrM M D).rel.length rc2)) := ((HE3.out.setCell (by simp) _).setCell (by simp) _).setCell (by simp) _
      generalize ((w3.setCell ⟨w.heap.size + 1, 0, none⟩ (.int .i64 (arrM M D).worlds)).setCell ⟨w.heap.size + 1, 1, none⟩ (.slice va2 (arrM M D).val.length vc2)).setCell ⟨w.heap.size + 1, 2, none⟩ (.slice ra2 (arrM M D).rel.length rc2) = W2 at *
      refine bodyPost_ret (v := .tuple #[.agg #[(.int .i64 (arrM M D).worlds), (.slice va2 (arrM M D).val.length vc2), (.slice ra2 (arrM M D).rel.length rc2)], .int .i64 0]) ?_ rfl ?_
      · rw [results_cell_tmp rfl]
        go_simp
      · refine ⟨arrM M D, va2, ra2, vc2, rc2, 0, rfl, fun w'' ha => ?_, hEx, fun _ => ⟨D, rfl, ⟨hTl, hlD, HST.out.small, fun j hj => HST.out.put j hj⟩⟩⟩
        exact HM3.out w'' fun j hj hl => (ha j (by omega) (by rw [hsz]; exact hl)).trans (hag j (by omega) hl)
end Wt
