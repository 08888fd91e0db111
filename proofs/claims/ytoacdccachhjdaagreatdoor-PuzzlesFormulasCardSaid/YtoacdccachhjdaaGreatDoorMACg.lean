/- Walk: puzzles.Play. -/
import Derived.Test.YtoacdccachhjdaaGreatDoorMACf
import Derived.Test.YtoacdccachhjdaaGreatDoorMACd
import Derived.Laws.StructEq
namespace Wt
open Go Go.RowKit Go.Maps Go.Proofs Fm

/-- A list of turns and an error. -/
def RetTu (l : List (Bool × Nat)) (c : Int) (e : Ending) (w w' : World) : Prop := ∃ a cp, e = .returned (.tuple #[.slice a l.length cp, .int .i64 c]) ∧ RTu w' a l ∧ Ext w w'
theorem RU.keepZ {w w' : World} {a : Option Addr} {l : List (BitVec 64)} (r : RU w a l) (K : ∀ k, k < w.heap.size → w'.heap[k]? = w.heap[k]?) : RU w' a l :=
  ⟨r.len, fun k hk => by
    obtain ⟨b, off, e, c⟩ := r.at_ k hk
    exact ⟨b, off, e, (World.cell?_of_block (K b (World.block_lt_of_cell? _ _ c))).trans c⟩⟩
theorem RM.keepZ {w w' : World} {va ra : Option Addr} {M : Mo} (r : RM w va ra M) (K : ∀ k, k < w.heap.size → w'.heap[k]? = w.heap[k]?) : RM w' va ra M :=
  ⟨r.val.keepZ K, r.rel.len, fun k hk => by
    obtain ⟨b, off, a', c', e, c, u⟩ := r.rel.at_ k hk
    exact ⟨b, off, a', c', e, (World.cell?_of_block (K b (World.block_lt_of_cell? _ _ c))).trans c, u.keepZ K⟩⟩
/-- The model now lies in block b; its memory lies neither there nor in the turns' block. -/
structure NowT (b : Nat) (A : Mo) (va ra : Option Addr) (vc rc : Nat) (v : Value) (wr : World) : Prop where
  out : OutAt wr b (.int .i64 A.worlds) (.slice va A.val.length vc) (.slice ra A.rel.length rc)
  own : ∀ g, v.ownBlock = some g → b < g ∧ g < wr.heap.size
  keep : ∀ w'' : World, (∀ k, k ≠ b → some k ≠ v.ownBlock → k < wr.heap.size → w''.heap[k]? = wr.heap[k]?) → RM w'' va ra A
section
variable {b : Nat} {A A2 : Mo} {va ra va2 ra2 : Option Addr} {vc rc vc2 rc2 : Nat} {v : Value} {wr w2 w3 W1 : World} {svs : List Value}
theorem NowT.rm (h : NowT b A va ra vc rc v wr) : RM wr va ra A := h.keep wr fun _ _ _ _ => rfl
theorem NowT.ext (h : NowT b A va ra vc rc v wr) (e : Ext wr w2) : NowT b A va ra vc rc v w2 :=
  ⟨h.out.ext e, fun g hg => ⟨(h.own g hg).1, Nat.lt_of_lt_of_le (h.own g hg).2 e.size⟩, fun w'' ha => h.keep w'' fun k h1 h2 h3 => (ha k h1 h2 (Nat.lt_of_lt_of_le h3 e.size)).trans (e.block k h3)⟩
theorem NowT.next (h : NowT b A va ra vc rc v wr) (h2 : Ext wr w2) (hm : FrM wr.heap.size w2 va2 ra2 vc2 rc2 A2 svs) (h3 : Ext w2 w3) :
    NowT b A2 va2 ra2 vc2 rc2 v (((w3.setCell ⟨b, 0, none⟩ (.int .i64 A2.worlds)).setCell ⟨b, 1, none⟩ (.slice va2 A2.val.length vc2)).setCell ⟨b, 2, none⟩ (.slice ra2 A2.rel.length rc2)) := by
  have hb := h.out.lt
  have s2 := h2.size
  have s3 := h3.size
  refine ⟨(((h.out.ext (h2.trans h3)).set0 _).set1 _).set2 _, fun g hg => ⟨(h.own g hg).1, ?_⟩, fun w'' ha => ?_⟩
  · have := (h.own g hg).2
    simp only [World.setCell, Array.size_modify]
    omega
  · refine (hm.agree fun k hk hl => ?_).rm
    have h1 : k ≠ b := by omega
    have h4 : some k ≠ v.ownBlock := fun e => by have := (h.own k e.symm).2; omega
    rw [ha k h1 h4 (by simp only [World.setCell, Array.size_modify]; omega)]
    rw [heap_setCell_other _ _ _ _ (by simpa using h1), heap_setCell_other _ _ _ _ (by simpa using h1), heap_setCell_other _ _ _ _ (by simpa using h1)]
    exact h3.block k hl
theorem NowT.push {g n c : Nat} (h : NowT b A va ra vc rc v wr) (hg : wr.grownBy W1 v.ownBlock) (hat : v.ownBlock = some g ∨ g = wr.heap.size) (hl : g < W1.heap.size) : NowT b A va ra vc rc (.slice (some ⟨g, 0, none⟩) n c) W1 := by
  have hb := h.out.lt
  have hbv : some b ≠ v.ownBlock := fun e => by have := (h.own b e.symm).1; omega
  refine ⟨h.out.keep (hg.block b hb hbv), fun g' hg' => ?_, fun w'' ha => h.keep w'' fun k h1 h2 h3 => ?_⟩
  · have : g' = g := by simpa [Value.ownBlock] using hg'.symm
    subst this
    exact ⟨by rcases hat with h1 | h1
              · exact (h.own _ h1).1
              · omega, hl⟩
  · rw [ha k h1 (by
      simp only [Value.ownBlock]
      intro e
      have e2 : k = g := by simpa using e
      rcases hat with h4 | h4
      · exact h2 (by rw [h4, e2])
      · omega) (Nat.lt_of_lt_of_le h3 hg.size)]
    exact hg.block k h3 h2
end
theorem ext_set3z {a w : World} (h : Ext a w) {b : Nat} (hb : a.heap.size ≤ b) (x y z : Value) : Ext a (((w.setCell ⟨b, 0, none⟩ x).setCell ⟨b, 1, none⟩ y).setCell ⟨b, 2, none⟩ z) :=
  ((h.setCell hb x).setCell hb y).setCell hb z
/-- What lies between two rounds of Play: the model now in block b, the turns so far. -/
def PlI (w : World) (l : List (List Nd)) (R : List (Bool × Nat) × Int) (k : Nat) (x v : Value) (wr : World) : Prop :=
  ∃ (A : Mo) (N y : Nat) (pre : List (Bool × Nat)) (va ra : Option Addr) (vc rc : Nat), x = .int .i64 (y : Int) ∧ NowT w.heap.size A va ra vc rc v wr ∧ MoOk A N ∧ y < N ∧ TuV (w.heap.size + 1) pre v wr ∧ pre.length = k ∧ playC pre (playR A y (l.drop k)) = R ∧ Ext w wr
theorem ext_turn {w wz W1 : World} {l : List (Bool × Nat)} {v : Value} (h : TuV (w.heap.size + 1) l v wz) (hX : Ext w wz) (hg : wz.grownBy W1 v.ownBlock) : Ext w W1 :=
  ext_of_grown hX hg fun k hk => by
    rcases h.own.2 with ⟨rfl, _⟩ | ⟨g, cap, cur, rfl, hb, _⟩
    · simp [Value.ownBlock] at hk
    · have : g = k := by simpa [Value.ownBlock] using hk
      omega
set_option maxRecDepth 20000 in
set_option maxHeartbeats 16000000 in
theorem play_any (M : Mo) (x : Int) (va ra : Option Addr) (vc rc : Nat) (oa : Option Addr) (oc : Nat) (l : List (List Nd)) (w : World) (hm : RM w va ra M) (hl : RNN w oa l) (hT : Tab w) :
    Calls Tryz.prog 24 #[.agg #[.int .i64 M.worlds, .slice va M.val.length vc, .slice ra M.rel.length rc], .int .i64 x, .slice oa l.length oc] w fun e w' => RetTu (playOf M x l) (playErr M x l) e w w' := by
  have hE0 : Ext w (w.alloc (.cells #[.int .i64 M.worlds, .slice va M.val.length vc, .slice ra M.rel.length rc] 28)) := (Ext.refl w).alloc _
  have HOM := Lib.hid (OutAt.new w (.int .i64 M.worlds) (.slice va M.val.length vc) (.slice ra M.rel.length rc) 28)
  have HE := Lib.hid hE0
  have HM := Lib.hid (hm.ext hE0)
  have HL := Lib.hid (hl.ext hE0)
  have HT := Lib.hid (hT.ext hE0)
  have HMW := Lib.hid hm
  have hll := hl.len
  have HMC := Lib.hid (modelCheck_any M va ra vc rc _ (hm.ext hE0))
  have HN0 : Hid (NowT w.heap.size M va ra vc rc (.slice none 0 0) (w.alloc (.cells #[.int .i64 M.worlds, .slice va M.val.length vc, .slice ra M.rel.length rc] 28))) := Lib.hid ⟨HOM.out, fun g hg => by simp [Value.ownBlock] at hg, fun w'' ha => by
    have hk : ∀ k, k < w.heap.size → w''.heap[k]? = w.heap[k]? := fun k hk => (ha k (by omega) (by simp [Value.ownBlock]) (by simp; omega)).trans (hE0.block k hk)
    exact RM.keepZ hm hk⟩
  have HLW := Lib.hid hl
  have HTW := Lib.hid hT
  clear hm hl hT hE0
  obtain ⟨m0, m1, m2, -⟩ := HOM.out
  have ml := World.block_lt_of_cell? _ _ m0
  dsimp only at ml
  by_cases h1 : moCheck M = 0
  rotate_left
  · have HN : Hid (playErr M x l = moCheck M) := Lib.hid (if_pos h1)
    have HO : Hid (playOf M x l = []) := Lib.hid (if_neg (by rw [HN.out]; exact h1))
    have hq : (moCheck M != 0) = true := by simpa using h1
    clear h1
    rw [HN.out, HO.out]
    generalize moCheck M = er at *
    go_enter Tryz.func24, Tryz.ntmps24
    go_wp2_with fail
    generalize w.alloc (.cells #[.int .i64 M.worlds, .slice va M.val.length vc, .slice ra M.rel.length rc] 28) = w0 at *
    refine HMC.out.mono ?_
    rintro _ w1 ⟨rfl, hE1⟩
    have HE1 := Lib.hid hE1
    dsimp only
    go_wp2_with fail
    go_ret2
    exact ⟨none, 0, rfl, RTu.nil _ _, HE.out.trans HE1.out⟩
  have hmc := HMC.out
  rw [h1] at hmc
  obtain ⟨N, ok⟩ := moCheck_ok h1
  have HMC := Lib.hid hmc
  have HOK := Lib.hid ok
  have hW := ok.worlds
  have hPE : playErr M x l = if x < 0 ∨ M.worlds ≤ x then 2 else if 100 < l.length then 8 else (playR M x.toNat l).2 := if_neg (by simp [h1])
  clear hmc h1 ok
  by_cases c0 : x < 0
  · have HN : Hid (playErr M x l = 2) := Lib.hid (by rw [hPE, if_pos (.inl c0)])
    have HO : Hid (playOf M x l = []) := Lib.hid (if_neg (by rw [HN.out]; decide))
    have d0 : decide (x < 0) = true := decide_eq_true c0
    clear c0 hPE hW
    rw [HN.out, HO.out]
    go_enter Tryz.func24, Tryz.ntmps24
    go_wp2_with fail
    generalize w.alloc (.cells #[.int .i64 M.worlds, .slice va M.val.length vc, .slice ra M.rel.length rc] 28) = w0 at *
    refine HMC.out.mono ?_
    rintro _ w1 ⟨rfl, hE1⟩
    have HE1 := Lib.hid hE1
    dsimp only
    go_wp2_with fail
    go_ret2
    exact ⟨none, 0, rfl, RTu.nil _ _, HE.out.trans HE1.out⟩
  have d0 : decide (x < 0) = false := decide_eq_false c0
  by_cases c1 : M.worlds ≤ x
  · have HN : Hid (playErr M x l = 2) := Lib.hid (by rw [hPE, if_pos (.inr c1)])
    have HO : Hid (playOf M x l = []) := Lib.hid (if_neg (by rw [HN.out]; decide))
    have d1 : decide (M.worlds ≤ x) = true := decide_eq_true c1
    clear c0 c1 hPE hW
    rw [HN.out, HO.out]
    go_enter Tryz.func24, Tryz.ntmps24
    go_wp2_with fail
    generalize w.alloc (.cells #[.int .i64 M.worlds, .slice va M.val.length vc, .slice ra M.rel.length rc] 28) = w0 at *
    refine HMC.out.mono ?_
    rintro _ w1 ⟨rfl, hE1⟩
    have HE1 := Lib.hid hE1
    clear m0 m1 m2 ml
    obtain ⟨m0, m1, m2, -⟩ := HOM.out.ext HE1.out
    have ml := World.block_lt_of_cell? _ _ m0
    dsimp only at ml ⊢
    go_wp2_with fail
    go_ret2
    exact ⟨none, 0, rfl, RTu.nil _ _, HE.out.trans HE1.out⟩
  have d1 : decide (M.worlds ≤ x) = false := decide_eq_false c1
  by_cases c2 : 100 < l.length
  · have HN : Hid (playErr M x l = 8) := Lib.hid (by rw [hPE, if_neg (by omega), if_pos c2])
    have HO : Hid (playOf M x l = []) := Lib.hid (if_neg (by rw [HN.out]; decide))
    have d2 : decide ((100 : Int) < (l.length : Int)) = true := decide_eq_true (by omega)
    clear c0 c1 c2 hPE hW
    rw [HN.out, HO.out]
    go_enter Tryz.func24, Tryz.ntmps24
    go_wp2_with fail
    generalize w.alloc (.cells #[.int .i64 M.worlds, .slice va M.val.length vc, .slice ra M.rel.length rc] 28) = w0 at *
    refine HMC.out.mono ?_
    rintro _ w1 ⟨rfl, hE1⟩
    have HE1 := Lib.hid hE1
    clear m0 m1 m2 ml
    obtain ⟨m0, m1, m2, -⟩ := HOM.out.ext HE1.out
    have ml := World.block_lt_of_cell? _ _ m0
    dsimp only at ml ⊢
    go_wp2_with fail
    go_ret2
    exact ⟨none, 0, rfl, RTu.nil _ _, HE.out.trans HE1.out⟩
  have d2 : decide ((100 : Int) < (l.length : Int)) = false := decide_eq_false (by omega)
  obtain ⟨y, hy⟩ : ∃ y : Nat, x = (y : Int) := ⟨x.toNat, by omega⟩
  subst hy
  have hyN : y < N := by rw [hW] at c1; omega
  have HN : Hid (playErr M (y : Int) l = (playR M y l).2) := Lib.hid (by rw [hPE, if_neg (by omega), if_neg c2, Int.toNat_natCast])
  have HO : Hid (playOf M (y : Int) l = (playR M y l).1) := Lib.hid (by
    unfold playOf
    by_cases h : playErr M (y : Int) l = 0
    · rw [if_pos h, Int.toNat_natCast]
    · rw [if_neg h]
      rw [HN.out] at h
      exact (playR_err l M y h).symm)
  have HPC : Hid (playC [] (playR M y (l.drop 0)) = playR M y l) := Lib.hid (playC_nil _ (playR_err l M y))
  have hl100 : l.length ≤ 100 := by omega
  rw [HN.out, HO.out]
  obtain ⟨R, hR⟩ : ∃ R, R = playR M y l := ⟨_, rfl⟩
  rw [← hR] at HPC ⊢
  clear c0 c1 c2 hPE hW hR HN HO
  go_enter Tryz.func24, Tryz.ntmps24
  go_wp2_with fail
  generalize w.alloc (.cells #[.int .i64 M.worlds, .slice va M.val.length vc, .slice ra M.rel.length rc] 28) = w0 at *
  refine HMC.out.mono ?_
  rintro _ w1 ⟨rfl, hE1⟩
  have HE1 := Lib.hid hE1
  clear m0 m1 m2 ml hE1
  obtain ⟨m0, m1, m2, -⟩ := HOM.out.ext HE1.out
  have ml := World.block_lt_of_cell? _ _ m0
  dsimp only at ml ⊢
  go_wp2_with fail
  clear m0 m1 m2 ml
  have HX1 : Hid (Ext w w1) := Lib.hid (HE.out.trans HE1.out)
  go_loopw [1, 9, 34] (fun x v i wr => ∃ k : Nat, k ≤ l.length ∧ i = .int .i64 (k : Int) ∧ Hid (PlI w l R k x v wr)) (fun _ _ i _ => l.length + 1 - (RowKit.intOf i).toNat)
  case atStart => exact ⟨0, Nat.zero_le _, rfl, Lib.hid ⟨M, N, y, [], va, ra, vc, rc, rfl, HN0.out.ext HE1.out, HOK.out, hyN, TuV.new _ _, rfl, HPC.out, HX1.out⟩⟩
  case round =>
    obtain ⟨k, hk, rfl, HP⟩ := hrel
    obtain ⟨A, N2, y2, pre, va2, ra2, vc2, rc2, rfl, hN, hok, hy2, hTV, hpl, hR, hX⟩ := HP.out
    obtain ⟨m0, m1, m2, -⟩ := hN.out
    have ml := World.block_lt_of_cell? _ _ m0
    dsimp only at ml
    have HNT := Lib.hid hN
    have HTV := Lib.hid hTV
    have HOK2 := Lib.hid hok
    have HXW := Lib.hid hX
    have HPL := Lib.hid hpl
    clear HP hpl
    by_cases hkl : k < l.length
    · obtain ⟨bl, ol, fa, fc, rfl, hbl, hcl, hf⟩ := (HLW.out.ext hX).get k hkl
      have hfl := hf.len
      rw [drop_nth hkl] at hR
      have HAT := Lib.hid (at_any A va2 ra2 vc2 rc2 (y2 : Int) fa fc (nth l k) wr hN.rm hf)
      have HUP : Hid (∀ w', Ext wr w' → Calls Tryz.prog 73 #[.agg #[.int .i64 A.worlds, .slice va2 A.val.length vc2, .slice ra2 A.rel.length rc2], .slice fa (nth l k).length fc] w' fun e w'' => RetRO (upM A (nth l k)) (natI (upL A (nth l k))) (upErr A (nth l k)) e w' w'') := Lib.hid fun w' h' => update_any A va2 ra2 vc2 rc2 fa fc (nth l k) w' (hN.ext h').rm (hf.ext h') (HTW.out.ext (hX.trans h'))
      generalize nth l k = f at *
      clear hN hok hTV hX hf
      by_cases hq : atErr A (y2 : Int) f = 0
      · have hq1 : (atErr A (y2 : Int) f != 0) = false := by simp [hq]
        cases hb : atOf A (y2 : Int) f
        · have HN : Hid (R = (pre ++ [(false, A.worlds.toNat)], 0)) := Lib.hid (by rw [← hR, playR_no hq hb])
          have hAT := HAT.out
          rw [hb, hq] at hAT
          have HAT := Lib.hid hAT
          clear hR hq hb hAT hq1
          go_wp2_with fail
          refine HAT.out.mono ?_
          rintro _ w2 ⟨rfl, hE2⟩
          dsimp only
          have HE2 := Lib.hid hE2
          clear m0 m1 m2 ml
          obtain ⟨m0, m1, m2, -⟩ := HNT.out.out.ext hE2
          have ml := World.block_lt_of_cell? _ _ m0
          dsimp only at ml
          have HTV2 := Lib.hid (HTV.out.ext' hE2)
          have hsz1 : w.heap.size + 1 ≤ w2.heap.size := ml
          have hWn := HOK2.out.worlds
          have hpl := HPL.out
          have hpl2 : pre.length < 100 := by omega
          rw [hWn] at m0
          rw [hWn, Int.toNat_natCast] at HN
          have HO : Hid (∀ o, (w2.alloc o).ownsRow (w.heap.size + 1) 60 2 u9 pre.length (rowT pre)) := Lib.hid fun o => (HTV2.out.ext' ((Ext.refl w2).alloc o)).own
          have HPA : Hid (∀ o, TuV (w.heap.size + 1) pre u9 (w2.alloc o)) := Lib.hid fun o => HTV2.out.ext' ((Ext.refl w2).alloc o)
          have HXA : Hid (∀ o, Ext w (w2.alloc o)) := Lib.hid fun o => (HXW.out.trans HE2.out).alloc o
          obtain ⟨i0, hi1, hz0, hz1, hz2⟩ := info_parts turn_info
          clear hE2 hWn hpl
          go_wp2_with (at_builtin; refine wpList_append_lies _ rfl _ _ 45 rfl (w.heap.size + 1) 60 i0 _ 2 16 Tryz.underlying45 hi1 hz0 hz1 hz2 rfl (by decide) u9 pre.length (rowT pre) rfl (HO.out _) ⟨w2.heap.size, 0, none⟩ 1 1 (tuCells (false, N2)) rfl rfl (turn_news _ _ _ _) (turn_one _) (by decide) (by unfold maxLen; omega) (by omega) (Nat.le_trans hsz1 (by simp)) (w2.heap.size + 1) (by simp) ?_; intro gx cap W1 hown hgrow hat hlt2; have hpush := HTV2.out.push (p := (false, N2)) hown; have hx9 := ext_turn (HPA.out _) (HXA.out _) hgrow; have HPU := Lib.hid hpush; have HX9 := Lib.hid hx9; clear hpush hown hgrow hat hx9)
          go_ret2
          rw [HN.out]
          obtain ⟨a, c, e, hrt⟩ := HPU.out.rt (by simp; omega)
          exact ⟨a, c, by rw [← e]; simp, hrt, HX9.out⟩
        · have haf : afErr A (y2 : Int) f = 0 := by unfold afErr; rw [if_neg (by simp [hq]), if_pos hb]
          obtain ⟨hu, kk, p, hkk, -, hp, hplt, -⟩ := afErr_ok haf
          obtain ⟨N3, ok3, hok3, -, -, -, hle3, -⟩ := up_ok hu
          have HRR : Hid (playC (pre ++ [(true, (upL A f).length)]) (playR (upM A f) p (l.drop (k + 1))) = R) := Lib.hid (by
            have h1 := playR_yes hq hb pre (l := l.drop (k + 1))
            rw [hR, hp, hok3.worlds] at h1
            exact h1.symm)
          have HOK3 := Lib.hid hok3
          have HPP := Lib.hid hp
          have hAT := HAT.out
          have hUP := HUP.out
          rw [hb, hq] at hAT
          rw [hu] at hUP
          have HAT := Lib.hid hAT
          have HUP := Lib.hid hUP
          have hnl := natI_len (upL A f)
          have HW3 := Lib.hid hok3.worlds
          have HLE : Hid ((upL A f).length ≤ 64) := Lib.hid (Nat.le_trans hle3 ok3.most)
          clear hR hq hb hAT hq1 hUP haf hu hkk hp ok3 hok3 hle3
          go_wp2_with fail
          refine HAT.out.mono ?_
          rintro _ w2 ⟨rfl, hE2⟩
          dsimp only
          have HE2 := Lib.hid hE2
          clear m0 m1 m2 ml
          obtain ⟨m0, m1, m2, -⟩ := HNT.out.out.ext hE2
          have ml := World.block_lt_of_cell? _ _ m0
          have HNT2 := Lib.hid (HNT.out.ext hE2)
          have HTV2 := Lib.hid (HTV.out.ext' hE2)
          dsimp only at ml
          go_wp2_with fail
          refine (HUP.out _ HE2.out).mono ?_
          rintro _ w3 ⟨va4, ra4, la4, vc4, rc4, lc4, svs4, rfl, hm4, hu4, hE4⟩
          rw [hnl]
          dsimp only
          have HIX : Hid (∀ w', Ext w3 w' → Calls Tryz.prog 74 #[.slice la4 (upL A f).length lc4, .int .i64 (y2 : Int)] w' fun e w'' => e = .returned (.int .i64 (p : Int)) ∧ w' = w'') := Lib.hid fun w' h' => by
            have h1 := index_any (upL A f) (y2 : Int) la4 lc4 w' (hu4 w' (fun j _ hj => h'.block j hj))
            rw [HPP.out] at h1
            exact h1
          have HM4 := Lib.hid hm4
          have HE4 := Lib.hid hE4
          generalize upM A f = A2 at *
          generalize upL A f = l2 at *
          clear hm4 hu4 hE2 hE4 hnl
          clear m0 m1 m2 ml
          obtain ⟨m0, m1, m2, -⟩ := HNT2.out.out.ext HE4.out
          have ml := World.block_lt_of_cell? _ _ m0
          dsimp only at ml
          have hnx := OutAt.new w3 (.int .i64 A2.worlds) (.slice va4 A2.val.length vc4) (.slice ra4 A2.rel.length rc4) 28
          have hE6 : Ext w3 (w3.alloc (.cells #[.int .i64 A2.worlds, .slice va4 A2.val.length vc4, .slice ra4 A2.rel.length rc4] 28)) := (Ext.refl _).alloc _
          go_wp2_with fail
          generalize w3.alloc (.cells #[.int .i64 A2.worlds, .slice va4 A2.val.length vc4, .slice ra4 A2.rel.length rc4] 28) = w5 at *
          have hX5 : Ext w (w5) := ((HXW.out.trans HE2.out).trans HE4.out).trans hE6
          have HE6 := Lib.hid hE6
          have HX5 := Lib.hid hX5
          have hb0 : w.heap.size < w3.heap.size := ml
          have HSS : Hid (∀ w', Ext w5 w' → w'.cell? ⟨w3.heap.size, 0, none⟩ = some (.int .i64 A2.worlds) ∧ w'.cell? ⟨w3.heap.size, 1, none⟩ = some (.slice va4 A2.val.length vc4) ∧ w'.cell? ⟨w3.heap.size, 2, none⟩ = some (.slice ra4 A2.rel.length rc4)) := Lib.hid fun w' h' => by
            obtain ⟨x0, x1, x2, -⟩ := hnx.ext h'
            exact ⟨x0, x1, x2⟩
          clear hE6 hX5 hnx
          refine wp_region_E 5 (fun w' => w'.cell? ⟨w3.heap.size, 0, none⟩ = some (.int .i64 A2.worlds) ∧ w'.cell? ⟨w3.heap.size, 1, none⟩ = some (.slice va4 A2.val.length vc4) ∧ w'.cell? ⟨w3.heap.size, 2, none⟩ = some (.slice ra4 A2.rel.length rc4)) (by kernel_rfl) ?_
          refine wpAnyE_take (i := 0) (v := ?_) (.here) (by kernel_rfl) (fun _ _ _ h => h) (HSS.out _ (Ext.refl _).drew) (by rfl) ?_ ?_
          rotate_left
          focus (intro w hSw; (try dsimp only at hSw); go_simp; try with_reducible rfl)
          try simp only [Act.put, List.setIfInBounds_toArray, List.set_cons_zero, List.set_cons_succ]
          refine wpAnyE_take (i := 1) (v := ?_) (.next (.here)) (by kernel_rfl) (fun _ _ _ h => h) (HSS.out _ (Ext.refl _).drew) (by rfl) ?_ ?_
          rotate_left
          focus (intro w hSw; (try dsimp only at hSw); go_simp; try with_reducible rfl)
          try simp only [Act.put, List.setIfInBounds_toArray, List.set_cons_zero, List.set_cons_succ]
          refine wpAnyE_take (i := 2) (v := ?_) (.next (.next (.here))) (by kernel_rfl) (fun _ _ _ h => h) (HSS.out _ (Ext.refl _).drew) (by rfl) ?_ ?_
          rotate_left
          focus (intro w hSw; (try dsimp only at hSw); go_simp; try with_reducible rfl)
          try simp only [Act.put, List.setIfInBounds_toArray, List.set_cons_zero, List.set_cons_succ]
          refine wpAnyE_one (k := 3) (.next (.next (.next (.here)))) (by kernel_rfl) (fun K hK => ?_)
          go_simp
          refine (HIX.out _ HE6.out.drew).mono ?_; rintro _ w7 ⟨rfl, rfl⟩; dsimp only
          refine hK.out _ _ (fun _ => HSS.out _ (Ext.refl _).drew) ?_
          clear hK
          try simp only [Act.put, List.setIfInBounds_toArray, List.set_cons_zero, List.set_cons_succ]
          have hSQ : ∀ x y z, (((((w5.setCell ⟨w.heap.size, 0, none⟩ x).setCell ⟨w.heap.size, 1, none⟩ y).setCell ⟨w.heap.size, 2, none⟩ z).drew.cell? ⟨w3.heap.size, 0, none⟩ = some (.int .i64 A2.worlds)) ∧ ((((w5.setCell ⟨w.heap.size, 0, none⟩ x).setCell ⟨w.heap.size, 1, none⟩ y).setCell ⟨w.heap.size, 2, none⟩ z).drew.cell? ⟨w3.heap.size, 1, none⟩ = some (.slice va4 A2.val.length vc4)) ∧ ((((w5.setCell ⟨w.heap.size, 0, none⟩ x).setCell ⟨w.heap.size, 1, none⟩ y).setCell ⟨w.heap.size, 2, none⟩ z).drew.cell? ⟨w3.heap.size, 2, none⟩ = some (.slice ra4 A2.rel.length rc4))) := fun x y z => by
            obtain ⟨x0, x1, x2⟩ := HSS.out _ (Ext.refl _)
            have hne : w3.heap.size ≠ w.heap.size := by omega
            have hbk : (((w5.setCell ⟨w.heap.size, 0, none⟩ x).setCell ⟨w.heap.size, 1, none⟩ y).setCell ⟨w.heap.size, 2, none⟩ z).heap[w3.heap.size]? = w5.heap[w3.heap.size]? := by
              rw [heap_setCell_other _ _ _ _ (by simpa using hne), heap_setCell_other _ _ _ _ (by simpa using hne), heap_setCell_other _ _ _ _ (by simpa using hne)]
            exact ⟨(World.cell?_of_block (w' := World.drew _) hbk).trans x0, (World.cell?_of_block (w' := World.drew _) hbk).trans x1, (World.cell?_of_block (w' := World.drew _) hbk).trans x2⟩
          have HSQ := Lib.hid hSQ
          clear hSQ
          have HNX := Lib.hid ((HNT2.out.next HE4.out HM4.out HE6.out).ext (Ext.refl _).drew)
          have HTV3 : Hid (∀ x y z, TuV (w.heap.size + 1) pre u9 (((w5.setCell ⟨w.heap.size, 0, none⟩ x).setCell ⟨w.heap.size, 1, none⟩ y).setCell ⟨w.heap.size, 2, none⟩ z).drew) := Lib.hid fun x y z => ((((HTV2.out.ext' (HE4.out.trans HE6.out)).set (by omega)).set (by omega)).set (by omega)).ext' (Ext.refl _).drew
          have HXS : Hid (∀ x y z, Ext w (((w5.setCell ⟨w.heap.size, 0, none⟩ x).setCell ⟨w.heap.size, 1, none⟩ y).setCell ⟨w.heap.size, 2, none⟩ z).drew) := Lib.hid fun x y z => (ext_set3z HX5.out (Nat.le_refl _) x y z).drew
          have HTV8 := Lib.hid (HTV3.out (.int .i64 A2.worlds) (.slice va4 A2.val.length vc4) (.slice ra4 A2.rel.length rc4))
          have HXS8 := Lib.hid (HXS.out (.int .i64 A2.worlds) (.slice va4 A2.val.length vc4) (.slice ra4 A2.rel.length rc4))
          clear HTV3 HXS
          clear m0 m1 m2 ml
          obtain ⟨m0, m1, m2, mfz⟩ := HNT2.out.out.ext (HE4.out.trans HE6.out)
          have g0 := mfz 0
          have g1 := mfz 1
          have g2 := mfz 2
          have ml := World.block_lt_of_cell? _ _ m0
          dsimp only at ml
          clear mfz
          refine wpAnyE_one (k := 4) (.next (.next (.next (.next (.here))))) (by kernel_rfl) (fun K hK => ?_)
          go_simp
          go_wp2_with fail
          refine hK.out _ _ (fun _ => HSQ.out _ _ _) ?_
          clear hK
          try simp only [Act.put, List.setIfInBounds_toArray, List.set_cons_zero, List.set_cons_succ]
          refine wpAnyE_seq [5] (.cons (.next (.next (.next (.next (.next (.here)))))) (.nil)) (by kernel_rfl) (by kernel_rfl) ?_
          generalize (((w5.setCell ⟨w.heap.size, 0, none⟩ (.int .i64 A2.worlds)).setCell ⟨w.heap.size, 1, none⟩ (.slice va4 A2.val.length vc4)).setCell ⟨w.heap.size, 2, none⟩ (.slice ra4 A2.rel.length rc4)).drew = w8 at *
          obtain ⟨m0, m1, m2, -⟩ := HNX.out.out
          have ml := World.block_lt_of_cell? _ _ m0
          dsimp only at ml
          have hsz1 : w.heap.size + 1 ≤ w8.heap.size := ml
          have hpl := HPL.out
          have hpl2 : pre.length < 100 := by omega
          have hWn := HW3.out
          rw [hWn] at m0
          have HO : Hid (∀ o, (w8.alloc o).ownsRow (w.heap.size + 1) 60 2 u9 pre.length (rowT pre)) := Lib.hid fun o => (HTV8.out.ext' ((Ext.refl w8).alloc o)).own
          have HPA : Hid (∀ o, TuV (w.heap.size + 1) pre u9 (w8.alloc o)) := Lib.hid fun o => HTV8.out.ext' ((Ext.refl w8).alloc o)
          have HXA : Hid (∀ o, Ext w (w8.alloc o)) := Lib.hid fun o => HXS8.out.alloc o
          have HNA : Hid (∀ o, NowT w.heap.size A2 va4 ra4 vc4 rc4 u9 (w8.alloc o)) := Lib.hid fun o => HNX.out.ext ((Ext.refl _).alloc o)
          obtain ⟨i0, hi1, hz0, hz1, hz2⟩ := info_parts turn_info
          clear hWn hpl
          go_wp2_with (at_builtin; refine wpList_append_lies _ rfl _ _ 45 rfl (w.heap.size + 1) 60 i0 _ 2 16 Tryz.underlying45 hi1 hz0 hz1 hz2 rfl (by decide) u9 pre.length (rowT pre) rfl (HO.out _) ⟨w8.heap.size, 0, none⟩ 1 1 (tuCells (true, l2.length)) rfl rfl (turn_news _ _ _ _) (turn_one _) (by decide) (by unfold maxLen; omega) (by omega) (Nat.le_trans hsz1 (by simp)) (w8.heap.size + 1) (by simp) ?_; intro gx cap W1 hown hgrow hat hlt2; have hpush := HTV8.out.push (p := (true, l2.length)) hown; have hx9 := ext_turn (HPA.out _) (HXA.out _) hgrow; have hn9 := (HNA.out _).push (n := pre.length + 1) (c := cap) hgrow (by simpa using hat) hlt2; have HPU := Lib.hid hpush; have HX9 := Lib.hid hx9; have HN9 := Lib.hid hn9; clear hpush hown hgrow hat hx9 hn9)
          go_roundw
          case rel => exact ⟨k + 1, hkl, by go_num, Lib.hid ⟨A2, l2.length, p, pre ++ [(true, l2.length)], va4, ra4, vc4, rc4, rfl, HN9.out, HOK3.out, hplt, HPU.out, by rw [List.length_append, HPL.out]; rfl, HRR.out, HX9.out⟩⟩
          case measure => simp [RowKit.intOf]; omega
      · have hq1 : (atErr A (y2 : Int) f != 0) = true := by simpa using hq
        have HN : Hid (R = ([], atErr A (y2 : Int) f)) := Lib.hid (by rw [← hR, playR_bad hq])
        clear hR hq
        go_wp2_with fail
        refine HAT.out.mono ?_
        rintro _ w2 ⟨rfl, hE2⟩
        dsimp only
        have HE2 := Lib.hid hE2
        clear hE2
        go_wp2_with fail
        go_ret2
        rw [HN.out]
        exact ⟨none, 0, rfl, RTu.nil _ _, HXW.out.trans HE2.out⟩
    · obtain rfl : k = l.length := by omega
      rw [List.drop_length, show playR A y2 [] = ([], 0) from rfl] at hR
      have HN : Hid (R = (pre, 0)) := Lib.hid (by rw [← hR]; simp [playC])
      clear hR
      have hpl := HPL.out
      obtain ⟨a, c, rfl, hrt⟩ := hTV.rt (by omega)
      rw [hpl]
      go_wp2_with fail
      go_ret2
      rw [HN.out]
      exact ⟨a, c, by rw [hpl]; rfl, hrt, HXW.out⟩
end Wt

/- Walks: wittingref32.SameTurns and SamePairs, wittingref02.Same, at equal lists. -/
namespace Wt
open Go Go.RowKit Go.Maps Go.Proofs Fm

theorem guard_pair : Tryz.prog.eqGuardType Tryz.prog.depth 23 = false := by kernel_rfl
theorem und_pair : Tryz.prog.underlying 23 = some (.array 2 3) := by kernel_rfl
theorem eq_pair (d : Nat) (a b : Int) (w : World) : (Op.equalIn (d + 1 + 1) 23 (.agg #[.int .i64 a, .int .i64 b]) (.agg #[.int .i64 a, .int .i64 b])).run Tryz.prog w = .ok true w := by
  rw [Op.equalIn]
  simp only [Sem.run_bind, run_underlying und_pair, Result.andThen_ok]
  have hs : (Go.sizeOf 3).run Tryz.prog w = .ok 1 w := by kernel_rfl
  simp only [hs, Result.andThen_ok]
  have h0 : ∀ v : Int, (Op.equalIn (d + 1) 3 (.int .i64 v) (.int .i64 v)).run Tryz.prog w = .ok true w := fun v => by rw [run_equalIn_int w d 3 .i64 .i64 v v (by kernel_rfl)]; simp
  simp [Sem.run_bind, Std.Legacy.Range.forIn_eq_forIn_range', List.range', part, h0]
theorem neq_pair (a b : Int) (w : World) : (binOp .neq 23 (.agg #[.int .i64 a, .int .i64 b]) (.agg #[.int .i64 a, .int .i64 b])).run Tryz.prog w = .ok (.bool false) w := by
  rw [run_neq_struct, eq_pair 9998]; rfl
theorem guard_turn : Tryz.prog.eqGuardType Tryz.prog.depth 60 = false := by kernel_rfl
theorem fields_turn : Tryz.prog.underlying 60 = some (.struct (Tryz.prog.fieldsOf 60)) := by kernel_rfl
theorem held_turn : Tryz.prog.stoodInHeld 60 = false := by kernel_rfl
theorem list_turn : (Tryz.prog.fieldsOf 60).toList.map (fun f => (f.name, f.type, f.offset)) = [("True", 4, 0), ("Worlds", 3, 1)] := by kernel_rfl
theorem eqFields_turn (d : Nat) (xs : Array Value) (w : World) : ∀ fs : List Field, (∀ f ∈ fs, (f.type = 3 ∧ ∃ v : Int, xs[f.offset]? = some (.int .i64 v)) ∨ (f.type = 4 ∧ ∃ v : Bool, xs[f.offset]? = some (.bool v))) → (Op.eqFields (d + 1) xs xs fs).run Tryz.prog w = .ok true w
  | [], _ => rfl
  | f :: fs, h => by
    have ih := eqFields_turn d xs w fs fun g hg => h g (by simp [hg])
    rcases h f (by simp) with ⟨ht, v, hv⟩ | ⟨ht, v, hv⟩
    · have hp : (part 3 xs f.offset).run Tryz.prog w = .ok (.int .i64 v) w := by
        have ha : (isAgg 3).run Tryz.prog w = .ok false w := by kernel_rfl
        simp [part, Sem.run_bind, ha, hv]
      have h0 : (Op.equalIn (d + 1) 3 (.int .i64 v) (.int .i64 v)).run Tryz.prog w = .ok true w := by rw [run_equalIn_int w d 3 .i64 .i64 v v (by kernel_rfl)]; simp
      unfold Op.eqFields
      split
      · rw [ht]
        simp [Sem.run_bind, hp, h0, ih]
      · exact ih
    · have hp : (part 4 xs f.offset).run Tryz.prog w = .ok (.bool v) w := by
        have ha : (isAgg 4).run Tryz.prog w = .ok false w := by kernel_rfl
        simp [part, Sem.run_bind, ha, hv]
      have h0 : (Op.equalIn (d + 1) 4 (.bool v) (.bool v)).run Tryz.prog w = .ok true w := by rw [run_equalIn_bool' w d 4 v v (by kernel_rfl)]; simp
      unfold Op.eqFields
      split
      · rw [ht]
        simp [Sem.run_bind, hp, h0, ih]
      · exact ih
theorem neq_turn (a : Bool) (b : Int) (w : World) : (binOp .neq 60 (.agg #[.bool a, .int .i64 b]) (.agg #[.bool a, .int .i64 b])).run Tryz.prog w = .ok (.bool false) w := by
  rw [run_neq_struct, run_equalIn_agg w 9999 _ _ _ fields_turn held_turn, eqFields_turn 9998]
  · rfl
  · intro g hg
    have hm : (g.name, g.type, g.offset) ∈ (Tryz.prog.fieldsOf 60).toList.map (fun f => (f.name, f.type, f.offset)) := List.mem_map.2 ⟨g, hg, rfl⟩
    rw [list_turn] at hm
    simp only [List.mem_cons, List.not_mem_nil, or_false, Prod.mk.injEq] at hm
    rcases hm with ⟨-, h1, h2⟩ | ⟨-, h1, h2⟩
    · exact .inr ⟨h1, _, by rw [h2]; rfl⟩
    · exact .inl ⟨h1, _, by rw [h2]; rfl⟩
theorem RTu.get {w : World} {a : Option Addr} {l : List (Bool × Nat)} (r : RTu w a l) {k : Nat} (hk : k < l.length) : ∃ b off, a = some ⟨b, off, none⟩ ∧ b < w.heap.size ∧ w.cell? ⟨b, off + k * 2, none⟩ = some (.bool (nth l k).1) ∧ w.cell? ⟨b, off + k * 2 + 1, none⟩ = some (.int .i64 ((nth l k).2 : Int)) :=
  let ⟨b, off, e, c, d⟩ := r.at_ k hk; ⟨b, off, e, World.block_lt_of_cell? w _ c, c, d⟩
set_option maxRecDepth 20000 in
set_option maxHeartbeats 1000000 in
theorem r2SameZ_any (l : List (BitVec 64)) (a b : Option Addr) (c d : Nat) (w : World) (h1 : RU w a l) (h2 : RU w b l) :
    Calls Tryz.prog 50 #[.slice a l.length c, .slice b l.length d] w fun e w' => e = .returned (.bool true) ∧ Ext w w' := by
  have H1 := Lib.hid h1
  have H2 := Lib.hid h2
  have hl := h1.len
  clear h1 h2
  go_enter Tryz.func50, Tryz.ntmps50
  go_wp2
  go_loopw [5] (fun i wr => ∃ k : Nat, k ≤ l.length ∧ i = .int .i64 (k : Int) ∧ Ext w wr) (fun i _ => l.length - (RowKit.intOf i).toNat)
  case atStart => exact ⟨0, Nat.zero_le _, rfl, Ext.refl _⟩
  case round =>
    obtain ⟨k, hk, rfl, hE⟩ := hrel
    by_cases hlt : k < l.length
    · obtain ⟨b1, o1, rfl, hb1, hc1⟩ := (H1.out.ext hE).get hlt
      obtain ⟨b2, o2, rfl, hb2, hc2⟩ := (H2.out.ext hE).get hlt
      have hne : (un (nth l k) != un (nth l k)) = false := by simp
      have hlI : (k : Int) < (l.length : Int) := by omega
      go_wp2_with fail
      go_quiet (fail)
      go_wp2
      go_roundw
      case rel => exact ⟨k + 1, hlt, by go_num, hE.drewN _⟩
      case measure => simp [RowKit.intOf]; omega
    · go_wp2
      go_ret
      exact ⟨rfl, hE⟩
set_option maxRecDepth 20000 in
set_option maxHeartbeats 2000000 in
theorem samePairs32_any (a b : Option Addr) (c d : Nat) (l : List (Nat × Nat)) (w : World) (h1 : RPe w a l) (h2 : RPe w b l) :
    Calls Tryz.prog 17 #[.slice a l.length c, .slice b l.length d] w fun e w' => e = .returned (.bool true) ∧ Ext w w' := by
  have H1 := Lib.hid h1
  have H2 := Lib.hid h2
  have hl := h1.len
  clear h1 h2
  go_enter Tryz.func17, Tryz.ntmps17
  go_wp2
  go_loopw [5] (fun i wr => ∃ k : Nat, k ≤ l.length ∧ i = .int .i64 (k : Int) ∧ Ext w wr) (fun i _ => l.length - (RowKit.intOf i).toNat)
  case atStart => exact ⟨0, Nat.zero_le _, rfl, Ext.refl _⟩
  case round =>
    obtain ⟨k, hk, rfl, hE⟩ := hrel
    by_cases hlt : k < l.length
    · obtain ⟨b1, o1, rfl, hb1, hc1, hd1⟩ := (H1.out.ext hE).get hlt
      obtain ⟨b2, o2, rfl, hb2, hc2, hd2⟩ := (H2.out.ext hE).get hlt
      have hgd := guard_pair
      have hnq := fun (a b : Int) (w : World) => neq_pair a b w
      go_wp2_with fail
      go_quiet (fail)
      go_wp2
      go_roundw
      case rel => exact ⟨k + 1, hlt, by go_num, by first | exact hE | exact hE.drew | exact hE.drewN _⟩
      case measure => simp [RowKit.intOf]; omega
    · go_wp2
      go_ret
      exact ⟨rfl, hE⟩
set_option maxRecDepth 20000 in
set_option maxHeartbeats 2000000 in
theorem sameTurns_any (a b : Option Addr) (c d : Nat) (l : List (Bool × Nat)) (w : World) (h1 : RTu w a l) (h2 : RTu w b l) :
    Calls Tryz.prog 26 #[.slice a l.length c, .slice b l.length d] w fun e w' => e = .returned (.bool true) ∧ Ext w w' := by
  have H1 := Lib.hid h1
  have H2 := Lib.hid h2
  have hl := h1.len
  clear h1 h2
  go_enter Tryz.func26, Tryz.ntmps26
  go_wp2
  go_loopw [5] (fun i wr => ∃ k : Nat, k ≤ l.length ∧ i = .int .i64 (k : Int) ∧ Ext w wr) (fun i _ => l.length - (RowKit.intOf i).toNat)
  case atStart => exact ⟨0, Nat.zero_le _, rfl, Ext.refl _⟩
  case round =>
    obtain ⟨k, hk, rfl, hE⟩ := hrel
    by_cases hlt : k < l.length
    · obtain ⟨b1, o1, rfl, hb1, hc1, hd1⟩ := (H1.out.ext hE).get hlt
      obtain ⟨b2, o2, rfl, hb2, hc2, hd2⟩ := (H2.out.ext hE).get hlt
      have hgd := guard_turn
      have hnq := fun (a : Bool) (b : Int) (w : World) => neq_turn a b w
      go_wp2_with fail
      go_quiet (fail)
      go_wp2
      go_roundw
      case rel => exact ⟨k + 1, hlt, by go_num, by first | exact hE | exact hE.drew | exact hE.drewN _⟩
      case measure => simp [RowKit.intOf]; omega
    · go_wp2
      go_ret
      exact ⟨rfl, hE⟩
theorem r2AllZ_any (n : Nat) (w : World) :
    Calls Tryz.prog 49 #[.int .i64 (n : Int)] w fun e w' => e = .returned (.int .u64 (un (allW n))) ∧ w = w' := by
  by_cases h : 64 ≤ n
  · go_enter Tryz.func49, Tryz.ntmps49
    go_wp2
    go_ret
    exact ⟨by simp [allW, h, un_max], rfl⟩
  · go_enter Tryz.func49, Tryz.ntmps49
    go_wp2
    go_ret
    exact ⟨by simp [allW, h], rfl⟩
end Wt
