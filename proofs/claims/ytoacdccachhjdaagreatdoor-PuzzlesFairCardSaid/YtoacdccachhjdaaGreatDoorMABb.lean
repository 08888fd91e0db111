/- Walk: relation.Has at euclidean relations (printed by gen_has5.py). -/
import Derived.Test.YtoacdccachhjdaaGreatDoorMABa
import Derived.Test.YtoacdccachhjdaaGreatDoorMAAz
namespace Wt
open Go Go.RowKit Go.Maps Go.Proofs Fm
attribute [local go_sem] Oper.semAt_some

theorem euc_iff {r : List (BitVec 64)} (h64 : r.length ≤ 64) (hin : ∀ k, k < r.length → Sub (nth r k) (allW r.length)) :
    eucB r = true ↔ ∀ j, j < r.length → ∀ i, i < (memL (nth r j)).length → nth r j &&& ~~~ nth r (nth (memL (nth r j)) i) = 0#64 := by
  unfold eucB
  simp only [List.all_eq_true, List.mem_range, Bool.or_eq_true, Bool.not_eq_true', beq_iff_eq]
  constructor
  · intro h j hj i hi
    have h2 := mem_memL.1 (nth_mem hi)
    rcases h j hj _ (memL_ltN (hin j hj) hi) with h3 | h3
    · rw [h2.2] at h3; cases h3
    · exact h3
  · intro h j hj u hu
    cases hb : bt (nth r j) u
    · exact .inl rfl
    · right
      have hm : u ∈ memL (nth r j) := mem_memL.2 ⟨by omega, hb⟩
      obtain ⟨i, hi, e⟩ := List.getElem_of_mem hm
      have h3 := h j hj i hi
      rw [nth_eq _ _ hi, e] at h3
      exact h3
theorem keepsOthers_drewN (W : World) (n : Nat) : KeepsOthers W (W.drewN n) := ⟨Nat.le_refl _, fun _ _ h _ => h⟩
theorem has5_eq {r : List (BitVec 64)} (h : relCheck r = 0) : hasB r 5 = eucB r := by unfold hasB; rw [h]; rfl
/-- Between two rounds. -/
structure EuO (w : World) (a : Option Addr) (n c : Nat) (Ds : List Nat) (W : World) : Prop where
  e : Ext w W
  ab : Bx1 W w.heap.size (.slice a n c)
  ob : Bx1 W (w.heap.size + 1) (.bool false)
  dn : Ds.Nodup
  dl : ∀ D ∈ Ds, w.heap.size + 2 ≤ D ∧ W.heap[D]? = some (.deferred (some []))
theorem EuO.ext {w W W' : World} {a : Option Addr} {n c : Nat} {Ds : List Nat} (h : EuO w a n c Ds W) (e : Ext W W') : EuO w a n c Ds W' :=
  ⟨h.e.trans e, h.ab.ext e, h.ob.ext e, h.dn, fun D hD => ⟨(h.dl D hD).1, by rw [e.block D (Array.getElem?_eq_some_iff.1 (h.dl D hD).2).1]; exact (h.dl D hD).2⟩⟩
theorem EuO.grown {w W W' : World} {a : Option Addr} {n c B : Nat} {Ds : List Nat} {row : Option Nat} (h : EuO w a n c Ds W) (g : W.grownBy W' row) (hr : ∀ r, row = some r → B ≤ r) (hB : w.heap.size + 1 < B) (hD : ∀ D ∈ Ds, D < B) : EuO w a n c Ds W' := by
  refine ⟨Below.grown h.e g h.e.size (fun j e => by have := hr j e; omega), h.ab.keep (g.block _ h.ab.lt (fun e => by have := hr _ e.symm; omega)), h.ob.keep (g.block _ h.ob.lt (fun e => by have := hr _ e.symm; omega)), h.dn, fun D hD' => ⟨(h.dl D hD').1, ?_⟩⟩
  rw [g.block D (Array.getElem?_eq_some_iff.1 (h.dl D hD').2).1 (fun e => by have := hr _ e.symm; have := hD D hD'; omega)]
  exact (h.dl D hD').2
theorem EuO.setBox {w W : World} {a : Option Addr} {n c b : Nat} {Ds : List Nat} (h : EuO w a n c Ds W) (hb : w.heap.size + 1 < b) (hD : ∀ D ∈ Ds, D ≠ b) (v : Value) : EuO w a n c Ds (W.setCell ⟨b, 0, none⟩ v) :=
  ⟨h.e.setCell (by simp; omega) _, h.ab.keep (heap_setCell_other _ ⟨b, 0, none⟩ _ _ (by simp; omega)), h.ob.keep (heap_setCell_other _ ⟨b, 0, none⟩ _ _ (by simp; omega)), h.dn, fun D hD' => ⟨(h.dl D hD').1, by
    rw [heap_setCell_other _ ⟨b, 0, none⟩ _ _ (hD D hD')]; exact (h.dl D hD').2⟩⟩
theorem EuO.no {w W : World} {a : Option Addr} {n c : Nat} {Ds : List Nat} (h : EuO w a n c Ds W) : EuO w a n c Ds (W.setCell ⟨w.heap.size + 1, 0, none⟩ (.bool false)) :=
  ⟨h.e.setCell (by simp) _, h.ab.keep (heap_setCell_other _ ⟨w.heap.size + 1, 0, none⟩ _ _ (by simp)), ⟨World.cell?_setCell_same' _ _ _ (by rw [h.ob.c]; rfl), by rw [World.frozen?_setCell]; exact h.ob.f⟩, h.dn, fun D hD => ⟨(h.dl D hD).1, by
    rw [heap_setCell_other _ ⟨w.heap.size + 1, 0, none⟩ _ _ (by have := (h.dl D hD).1; simp; omega)]; exact (h.dl D hD).2⟩⟩
/-- Between two rounds of the inner loop. -/
def EuI (w : World) (a : Option Addr) (n c bw : Nat) (k : Int) (r : List (BitVec 64)) (S : BitVec 64) (Ds : List Nat) (j : Nat) (W : World) : Prop :=
  EuO w a n c Ds W ∧ Bx1 W bw (.int .i64 k) ∧ ∀ i, i < j → S &&& ~~~ nth r (nth (memL S) i) = 0#64
theorem EuI.own {w : World} {a : Option Addr} {n c bw B : Nat} {k : Int} {r : List (BitVec 64)} {S : BitVec 64} {Ds : List Nat} (hB : w.heap.size + 1 < B) (hb : bw < B) (hD : ∀ D ∈ Ds, D < B) : OwnFrom B (EuI w a n c bw k r S Ds) :=
  fun _ _ _ _ hs hg hr => ⟨hs.1.grown hg (fun r e => (hr r e).1) hB hD, hs.2.1.keep (hg.block _ hs.2.1.lt (fun e => by have := (hr _ e.symm).1; omega)), hs.2.2⟩
/-- How the early return leaves. -/
def EuX (w : World) (a : Option Addr) (n c : Nat) (r : List (BitVec 64)) (Ds : List Nat) (cd : Code) (W : World) : Prop := cd = .ret ∧ eucB r = false ∧ EuO w a n c Ds W
theorem EuX.own {w : World} {a : Option Addr} {n c B : Nat} {r : List (BitVec 64)} {Ds : List Nat} (hB : w.heap.size + 1 < B) (hD : ∀ D ∈ Ds, D < B) : OwnFrom B (EuX w a n c r Ds) :=
  fun _ _ _ _ hs hg hr => ⟨hs.1, hs.2.1, hs.2.2.grown hg (fun r e => (hr r e).1) hB hD⟩
set_option maxRecDepth 20000 in
set_option maxHeartbeats 8000000 in
theorem has5_any (r : List (BitVec 64)) (a : Option Addr) (c : Nat) (w : World) (hT : Tab w) (hr : RU w a r) :
    Calls Tryz.prog 142 #[.slice a r.length c, .int .i64 5] w fun e w' => e = .returned (.bool (hasB r 5)) ∧ Ext w w' := by
  have hE0 : Ext w ((w.alloc (.cells #[.slice a r.length c] 25)).alloc (.cells #[.bool false] 4)) := ((Ext.refl w).alloc _).alloc _
  have b0 := (Bx1.new w (.slice a r.length c) 25).ext ((Ext.refl _).alloc (.cells #[.bool false] 4))
  have b1 := (Bx1.new (w.alloc (.cells #[.slice a r.length c] 25)) (.bool false) 4).at (b' := w.heap.size + 1) (by simp)
  have hO : EuO w a r.length c [] ((w.alloc (.cells #[.slice a r.length c] 25)).alloc (.cells #[.bool false] 4)) := ⟨hE0, b0, b1, List.nodup_nil, fun D hD => by cases hD⟩
  have hln := hr.len
  have hck0 := relCheck_any a r c _ (hr.ext hE0)
  obtain ⟨c0, -⟩ := b0
  obtain ⟨c1, f1⟩ := b1
  have l1 := World.block_lt_of_cell? _ _ c1
  dsimp only at l1
  by_cases hck : relCheck r = 0
  · rw [has5_eq hck]
    rw [hck] at hck0
    obtain ⟨h64, hin⟩ := relCheck_ok hck
    have HIF := Lib.hid (euc_iff h64 hin)
    have HIN := Lib.hid hin
    have HT := Lib.hid hT
    have HR := Lib.hid hr
    have HCK := Lib.hid hck0
    have HOO := Lib.hid hO
    clear hck0 hck hin hT hr hE0 hO
    refine (callsIn_wide (n := 9)).1 ?_
    refine callsIn_of_wp_marks Tryz.func142 rfl trivial ?_ rfl
    simp only [Tryz.ntmps142, List.size_toArray, List.length_cons, List.length_nil, Nat.reduceAdd, Nat.reduceSub, Array.replicate_succ, Array.replicate_zero, List.push_toArray, List.append_toArray, List.nil_append, List.cons_append]
    gi_wp2_with fail
    refine ⟨trivial, ?_⟩
    gi_at_call 140
    refine (callsIn_wide.2 HCK.out).mono ?_
    rintro _ _ ⟨rfl, rfl⟩
    dsimp only
    gi_wp2_with fail
    clear HCK c0 c1 f1 l1
    generalize (w.alloc (.cells #[.slice a r.length c] 25)).alloc (.cells #[.bool false] 4) = w2 at *
    refine wpIn_loop (fun ac W => ∃ (k : Nat) (Ds : List Nat) (u7 u67 u68 u69 u70 u71 u72 u73 u85 : Value), ac = { tmps := #[.slice a r.length c, .int .i64 5, .pointer (some ⟨w.heap.size, 0, none⟩), undef, .pointer (some ⟨w.heap.size + 1, 0, none⟩), undef, undef, u7, undef, .slice a r.length c, .int .i64 (r.length : Int), .slice a r.length c, .int .i64 0, .bool false, .int .i64 5, .bool false, .bool false, undef, undef, undef, .bool false, .bool false, undef, undef, undef, undef, undef, undef, undef, undef, undef, undef, undef, undef, undef, undef, .bool false, .bool false, undef, undef, undef, undef, .bool false, .bool false, undef, undef, undef, undef, undef, undef, undef, undef, undef, undef, undef, undef, undef, undef, undef, undef, undef, undef, .bool true, .bool true, .slice a r.length c, .int .i64 (r.length : Int), .int .i64 (k : Int), u67, u68, u69, u70, u71, u72, u73, undef, undef, undef, undef, undef, undef, undef, undef, undef, undef, undef, u85], defers := Ds.map markD } ∧ k ≤ r.length ∧ Hid (EuO w a r.length c Ds W) ∧ Hid (∀ j, j < k → ∀ i, i < (memL (nth r j)).length → nth r j &&& ~~~ nth r (nth (memL (nth r j)) i) = 0#64)) (fun ac _ => r.length - (RowKit.intOf (ac.tmps.getD 66 undef)).toNat) ?start ?round
    case start => exact ⟨0, [], _, _, _, _, _, _, _, _, _, rfl, Nat.zero_le _, HOO, Lib.hid fun _ h => absurd h (Nat.not_lt_zero _)⟩
    case round =>
      clear HOO
      rintro _ W ⟨k, Ds, u7, u67, u68, u69, u70, u71, u72, u73, u85, rfl, hk, HO, HNO⟩
      obtain ⟨c0, -⟩ := HO.out.ab
      have l0 := HO.out.ab.lt
      by_cases hkl : k < r.length
      · obtain ⟨b1, o1, ha, hb1, hc1⟩ := (HR.out.ext HO.out.e).get hkl
        subst ha
        gi_wp2_with (refine ⟨trivial, ?_⟩; gi_at_call 173; refine (callsIn_wide.2 (points_any (nth r k) _)).mono ?_; rintro _ _ ⟨rfl, rfl⟩)
        have hsW : W.heap.size + 1 + 1 ≤ ((W.alloc (.cells #[.int .i64 (k : Int)] 3)).alloc (.cells #[.int .u64 (un (nth r k))] 63)).heap.size := by simp
        have hEW : Ext W ((W.alloc (.cells #[.int .i64 (k : Int)] 3)).alloc (.cells #[.int .u64 (un (nth r k))] 63)) := ((Ext.refl W).alloc _).alloc _
        have bw := (Bx1.new W (.int .i64 (k : Int)) 3).ext ((Ext.refl _).alloc (.cells #[.int .u64 (un (nth r k))] 63))
        have bi := (Bx1.new (W.alloc (.cells #[.int .i64 (k : Int)] 3)) (.int .u64 (un (nth r k))) 63).at (b' := W.heap.size + 1) (by simp)
        have hI0 : EuI w (some ⟨b1, o1, none⟩) r.length c W.heap.size (k : Int) r (nth r k) Ds 0 ((W.alloc (.cells #[.int .i64 (k : Int)] 3)).alloc (.cells #[.int .u64 (un (nth r k))] 63)) := ⟨HO.out.ext hEW, bw, fun _ h => absurd h (Nat.not_lt_zero _)⟩
        have hgW := HO.out.ob.lt
        have HDl : Hid (∀ D ∈ Ds, D < W.heap.size) := Lib.hid fun D hD => (Array.getElem?_eq_some_iff.1 (HO.out.dl D hD).2).1
        have hc3 : ((W.alloc (.cells #[.int .i64 (k : Int)] 3)).alloc (.cells #[.int .u64 (un (nth r k))] 63)).cell? ⟨W.heap.size + 1, 0, none⟩ = some (ptsSt (nth r k) 0) := bi.c
        have hf3 := bi.f
        have HDN := Lib.hid HO.out.dn
        clear bw bi hEW c0 l0 hb1 hc1
        generalize (W.alloc (.cells #[.int .i64 (k : Int)] 3)).alloc (.cells #[.int .u64 (un (nth r k))] 63) = W3 at *
        refine wpIn_rangeFunc_ptsS rfl (by decide) (gf := 192) (b := W.heap.size + 1) rfl trivial (enters_of Tryz.func192 (by kernel_rfl) rfl) (points1_ptsS _ (by decide) _ (nth r k)) rfl hc3 hf3
          (EuI w (some ⟨b1, o1, none⟩) r.length c W.heap.size (k : Int) r (nth r k) Ds) (EuX w (some ⟨b1, o1, none⟩) r.length c r Ds) (EuI.own (by omega) (by omega) (fun D hD => by have := HDl.out D hD; omega)) (EuX.own (by omega) (fun D hD => by have := HDl.out D hD; omega)) (fun j A v h => ⟨h.1.setBox (by omega) (fun D hD => by have := HDl.out D hD; omega) v, h.2.1.keep (heap_setCell_other _ ⟨W.heap.size + 1, 0, none⟩ _ _ (by simp)), h.2.2⟩) (fun j A h => ⟨h.1.ext (Ext.refl _).drew, h.2.1.ext (Ext.refl _).drew, h.2.2⟩) (fun j A h => HT.out.ext h.1.e) hI0
          (fun x => { tmps := #[.slice (some ⟨b1, o1, none⟩) r.length c, .int .i64 5, .pointer (some ⟨w.heap.size, 0, none⟩), undef, .pointer (some ⟨w.heap.size + 1, 0, none⟩), undef, undef, .pointer (some ⟨W.heap.size, 0, none⟩), .int .i64 ((x : Nat) : Int), .slice (some ⟨b1, o1, none⟩) r.length c, .int .i64 (r.length : Int), .slice (some ⟨b1, o1, none⟩) r.length c, .int .i64 0, .bool false, .int .i64 5, .bool false, .bool false, undef, undef, undef, .bool false, .bool false, undef, undef, undef, undef, undef, undef, undef, undef, undef, undef, undef, undef, undef, undef, .bool false, .bool false, undef, undef, undef, undef, .bool false, .bool false, undef, undef, undef, undef, undef, undef, undef, undef, undef, undef, undef, undef, undef, undef, undef, undef, undef, undef, .bool true, .bool true, .slice (some ⟨b1, o1, none⟩) r.length c, .int .i64 (r.length : Int), .int .i64 (k : Int), .bool true, .int .i64 (k : Int), .slice (some ⟨b1, o1, none⟩) r.length c, .int .i64 (k : Int), .pointer (some ⟨b1, o1 + k, none⟩), .int .u64 (un (nth r k)), .func (.func 192) #[] #[.pointer (some ⟨W.heap.size + 1, 0, none⟩)], .int .i64 ((x : Nat) : Int), undef, undef, undef, undef, undef, undef, undef, undef, undef, undef, u85], defers := [] }) ?assign ?body ?done ?stop
        case assign =>
          intro l j A K hK
          gi_wp2
          exact hK
        case body =>
          intro l j A hj hI
          have HII := Lib.hid hI
          have hv := memL_ltN (HIN.out k hkl) hj
          have hac := hI.1.ab.c
          have hal := hI.1.ab.lt
          have hoc := hI.1.ob.c
          have hof := hI.1.ob.f
          have hol := hI.1.ob.lt
          have hwc := hI.2.1.c
          have hwl := hI.2.1.lt
          obtain ⟨b2, o2, e2, hb2, hc2⟩ := (HR.out.ext hI.1.e).get hkl
          simp only [Option.some.injEq, Addr.mk.injEq] at e2
          obtain ⟨rfl, rfl, -⟩ := e2
          obtain ⟨b3, o3, e3, hb3, hc3⟩ := (HR.out.ext hI.1.e).get hv
          simp only [Option.some.injEq, Addr.mk.injEq] at e3
          obtain ⟨rfl, rfl, -⟩ := e3
          clear hI
          have hmx : Tryz.prog.follows .mixedOrders = true := by kernel_rfl
          cases hz : (un (nth r k &&& ~~~ nth r (nth (memL (nth r k)) j)) != 0)
          · have hnz : nth r k &&& ~~~ nth r (nth (memL (nth r k)) j) = 0#64 := by
              rw [← un_zero] at hz
              exact un_inj.1 (by simpa using hz)
            have HNZ := Lib.hid hnz
            clear hnz
            generalize hX : nth r (nth (memL (nth r k)) j) = X at *
            gi_wp2
            refine wpIn_region_quietR (by rfl) (by assumption) (by kernel_rfl) ?_
            repeat (gi_big_quiet_step (fail))
            refine wpQuietIn_nil ?_
            rintro _ ⟨nq, rfl⟩
            all_goals gi_wp2
            all_goals exact ⟨keepsOthers_drewN _ _, ⟨HII.out.1.ext ((Ext.refl _).drewN _), HII.out.2.1.ext ((Ext.refl _).drewN _), lt_step HII.out.2.2 (by rw [hX]; exact HNZ.out)⟩, by simp, by simp⟩
          · have hb : eucB r = false := by
              cases hq : eucB r
              · rfl
              · have h := HIF.out.1 hq k hkl j hj
                rw [h, un_zero] at hz
                cases hz
            have HB := Lib.hid hb
            clear hb
            generalize hX : nth r (nth (memL (nth r k)) j) = X at *
            gi_wp2
            refine wpIn_region_quietR (by rfl) (by assumption) (by kernel_rfl) ?_
            repeat (gi_big_quiet_step (fail))
            refine wpQuietIn_nil ?_
            rintro _ ⟨nq, rfl⟩
            all_goals gi_wp2
            all_goals exact ⟨(keepsOthers_drewN _ _).trans (KeepsOthers.setCell _ _ _), rfl, HB.out, (HII.out.1.ext ((Ext.refl _).drewN _)).no⟩
        case done =>
          intro D W4 hD hI hK
          have hO4 : EuO w (some ⟨b1, o1, none⟩) r.length c (D :: Ds) W4 := ⟨hI.1.e, hI.1.ab, hI.1.ob, List.nodup_cons.2 ⟨fun hm => by have := HDl.out D hm; omega, hI.1.dn⟩, fun E hE => by
            rcases List.mem_cons.1 hE with rfl | hE
            · exact ⟨by omega, hK⟩
            · exact hI.1.dl E hE⟩
          have HO4 := Lib.hid hO4
          have HST := Lib.hid hI.2.2
          clear hI hK hO4
          gi_wp2
          refine ⟨⟨k + 1, D :: Ds, _, _, _, _, _, _, _, _, _, rfl, hkl, HO4, Lib.hid (lt_step HNO.out HST.out)⟩, ?_⟩
          simp [RowKit.intOf]
          omega
        case stop =>
          intro D cd W4 hD hX hK
          obtain ⟨rfl, hb, hO4⟩ := hX
          have hnd : (D :: Ds).Nodup := List.nodup_cons.2 ⟨fun hm => by have := HDl.out D hm; omega, hO4.dn⟩
          have hdl : ∀ E ∈ D :: Ds, w.heap.size + 2 ≤ E ∧ W4.heap[E]? = some (.deferred (some [])) := fun E hE => by
            rcases List.mem_cons.1 hE with rfl | hE
            · exact ⟨by omega, hK⟩
            · exact hO4.dl E hE
          have HO4 := Lib.hid hO4
          have HDL := Lib.hid hdl
          have HB := Lib.hid hb
          clear hK hO4 hdl hb
          gi_wp2
          refine leaves_marks (D :: Ds) W4 hnd (fun E hE => (HDL.out E hE).2) fun W' hs => ?_
          have hc' : W'.cell? ⟨w.heap.size + 1, 0, none⟩ = some (.bool false) := by
            rw [World.cell?_of_block (w := W4) (a := ⟨w.heap.size + 1, 0, none⟩) (hs.block _ fun hm => by have := (HDL.out _ hm).1; dsimp only at this; omega)]
            exact HO4.out.ob.c
          refine ⟨.bool false, ?_, ?_⟩
          · rw [results_cell_one rfl]
            go_simp
          · exact ⟨by rw [HB.out], hs.ext HO4.out.e fun E hE => by have := (HDL.out E hE).1; omega⟩
      · obtain rfl : k = r.length := by omega
        have hb : eucB r = true := HIF.out.2 HNO.out
        have HB := Lib.hid hb
        obtain ⟨o0, of⟩ := HO.out.ob
        have ol := HO.out.ob.lt
        have HDL : Hid (∀ E ∈ Ds, w.heap.size + 2 ≤ E ∧ (W.setCell ⟨w.heap.size + 1, 0, none⟩ (.bool true)).heap[E]? = some (.deferred (some []))) := Lib.hid fun E hE => ⟨(HO.out.dl E hE).1, by
          rw [heap_setCell_other _ ⟨w.heap.size + 1, 0, none⟩ _ _ (by have := (HO.out.dl E hE).1; simp; omega)]; exact (HO.out.dl E hE).2⟩
        have HC : Hid ((W.setCell ⟨w.heap.size + 1, 0, none⟩ (.bool true)).cell? ⟨w.heap.size + 1, 0, none⟩ = some (.bool true)) := Lib.hid (World.cell?_setCell_same' _ _ _ (by rw [o0]; rfl))
        clear hb
        gi_wp2
        refine leaves_marks Ds _ HO.out.dn (fun E hE => (HDL.out E hE).2) fun W' hs => ?_
        have hc' : W'.cell? ⟨w.heap.size + 1, 0, none⟩ = some (.bool true) := by
          rw [World.cell?_of_block (a := ⟨w.heap.size + 1, 0, none⟩) (hs.block _ fun hm => by have := (HDL.out _ hm).1; dsimp only at this; omega)]
          exact HC.out
        refine ⟨.bool true, ?_, ?_⟩
        · rw [results_cell_one rfl]
          go_simp
        · exact ⟨by rw [HB.out], hs.ext (HO.out.e.setCell (by simp) _) fun E hE => by have := (HDL.out E hE).1; omega⟩
  · rw [has_bad hck]
    have hq : (relCheck r != 0) = true := by simpa using hck
    have HE := Lib.hid hE0
    have HCK := Lib.hid hck0
    clear hck0 hck hE0 hO hT hr
    generalize relCheck r = er at *
    go_enter Tryz.func142, Tryz.ntmps142
    go_wp2_with fail
    generalize ((w.alloc (.cells #[.slice a r.length c] 25)).alloc (.cells #[.bool false] 4)) = w2 at *
    refine HCK.out.mono ?_
    rintro _ _ ⟨rfl, rfl⟩
    dsimp only
    go_wp2_with fail
    refine bodyPost_ret (v := .bool false) ?_ rfl ?_
    · rw [results_cell_one rfl]
      go_simp
    · exact ⟨rfl, HE.out.setCell (by simp) _⟩
end Wt

/- frames.In at every logic. -/
namespace Wt
open Go Go.RowKit Go.Maps Go.Proofs Fm

theorem propsL_mem {g p : Int} (h : p ∈ propsL g) : p = 1 ∨ p = 2 ∨ p = 4 ∨ p = 5 := by
  unfold propsL at h
  repeat' split at h
  all_goals simp at h
  all_goals omega
theorem hasAt_all {g p : Int} (h : p ∈ propsL g) : HasAt p := fun r a c W hT hr => by
  rcases propsL_mem h with rfl | rfl | rfl | rfl
  · exact has1_any r a c W hT hr
  · exact has2_any r a c W hT hr
  · exact has4_any r a c W hT hr
  · exact has5_any r a c W hT hr
/-- frames.In decides what it says, at every logic. -/
theorem frInA_any (g : Int) (M : Mo) (va ra : Option Addr) (vc rc : Nat) (w : World) (hT : Tab w) (hm : RM w va ra M) :
    Calls Tryz.prog 47 #[.agg #[.int .i64 M.worlds, .slice va M.val.length vc, .slice ra M.rel.length rc], .int .i64 g] w fun e w' => e = .returned (.bool (frIn M g)) ∧ Ext w w' :=
  frIn_any g (fun _ h => hasAt_all h) M va ra vc rc w hT hm
end Wt
