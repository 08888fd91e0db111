/- Walks: checker.Sets. -/
import Derived.Test.YtbeaagnahldefaaDoorM7An
import Derived.Test.YtbeaagnahldefaaDoorM7Aj
import Derived.Deep.CutRange
import Derived.Deep.OwnRows
import Derived.Test.YtbeaagnahldefaaDoorM7Am
import Derived.Laws.ResultCell
import Derived.Test.YtbeaagnahldefaaDoorM7Ah
namespace Wt
open Go Go.RowKit Go.Proofs Fm

def setsOf (M : Mo) (f : List Nd) : List (BitVec 64) := if reqErr M f = 0 then (List.range f.length).map (fun k => (semT M (trAt f k)).1) else []
def RetS (M : Mo) (f : List Nd) (e : Ending) (w w' : World) : Prop := ∃ a c, e = .returned (.tuple #[.slice a (setsOf M f).length c, .int .i64 (reqErr M f)]) ∧ RU w' a (setsOf M f) ∧ Ext w w'
theorem reqErr_ok {M : Mo} {f : List Nd} (h : reqErr M f = 0) : moCheck M = 0 ∧ fCheck f = 0 ∧ fFrags f < 16 ∧ fFits f M.rel.length M.val.length = true := by
  unfold reqErr at h
  by_cases h1 : moCheck M = 0
  · rw [if_neg (by simp [h1])] at h
    by_cases h2 : fCheck f = 0
    · rw [if_neg (by simp [h2])] at h
      by_cases h3 : 16 ≤ fFrags f
      · rw [if_pos h3] at h; omega
      · rw [if_neg h3] at h
        by_cases h4 : fFits f M.rel.length M.val.length = false
        · rw [if_pos h4] at h; omega
        · exact ⟨h1, h2, by omega, by simpa using h4⟩
    · rw [if_pos h2] at h; exact absurd h h2
  · rw [if_pos h1] at h; exact absurd h h1
theorem bool_info : (Tryd.prog.info? 4).map (fun i => (i.zero, i.size, i.bytes)) = some (some (.bool false), 1, 1) := by kernel_rfl
theorem cell_setOther (w : World) (g k b o : Nat) (u : Value) (h : b ≠ g) : (w.setCell ⟨g, k, none⟩ u).cell? ⟨b, o, none⟩ = w.cell? ⟨b, o, none⟩ :=
  World.cell?_of_block (heap_setCell_other w ⟨g, k, none⟩ b u h)
def bin2B (o : Int) : Bool := decide ((5 ≤ o ∧ o ≤ 8) ∨ o = 13)
theorem bin2B_iff (o : Int) : bin2B o = true ↔ bin2 o := by simp [bin2B, bin2]
/-- What a round of Sets keeps. -/
structure SetsAt (W0 wr : World) (M : Mo) (f : List Nd) (g1 g2 k : Nat) : Prop where
  ext : Ext W0 wr
  sets : OG wr W0.heap.size 40 uv g1 f.length f.length (doneL f.length k (fun j => (semT M (trAt f j)).1) 0#64)
  fine : OG wr W0.heap.size 4 Value.bool g2 f.length f.length (doneL f.length k (fun j => (semT M (trAt f j)).2) false)
theorem SetsAt.mono {W0 wr w2 : World} {M : Mo} {f : List Nd} {g1 g2 k : Nat} (h : SetsAt W0 wr M f g1 g2 k) (e : Ext wr w2) : SetsAt W0 w2 M f g1 g2 k :=
  ⟨h.ext.trans e, h.sets.ext e, h.fine.ext e⟩
theorem SetsAt.skip {W0 wr : World} {M : Mo} {f : List Nd} {g1 g2 k : Nat} (h : SetsAt W0 wr M f g1 g2 k) (e : semT M (trAt f k) = (0#64, false)) : SetsAt W0 wr M f g1 g2 (k + 1) :=
  ⟨h.ext, by rw [← doneL_skip _ _ _ _ (by rw [e])]; exact h.sets, by rw [← doneL_skip _ _ _ _ (by rw [e])]; exact h.fine⟩
theorem SetsAt.put {W0 wr : World} {M : Mo} {f : List Nd} {g1 g2 k : Nat} (h : SetsAt W0 wr M f g1 g2 k) (hne : g1 ≠ g2) (hk : k < f.length) {p : BitVec 64 × Bool} (e : semT M (trAt f k) = p) :
    SetsAt W0 ((wr.setCell ⟨g1, k, none⟩ (.int .u64 (un p.1))).setCell ⟨g2, k, none⟩ (.bool p.2)) M f g1 g2 (k + 1) := by
  subst e
  refine ⟨(h.ext.setCell h.sets.base_le _).setCell h.fine.base_le _, ?_, ?_⟩
  · rw [← doneL_set _ _ _ _ hk]
    exact (h.sets.set k _).other _ _ hne
  · rw [← doneL_set _ _ _ _ hk]
    exact (h.fine.other _ _ (Ne.symm hne)).set k _

set_option maxRecDepth 20000 in
set_option maxHeartbeats 10000000 in
theorem sets_any (M : Mo) (va ra : Option Addr) (vc rc : Nat) (fa : Option Addr) (fc : Nat) (f : List Nd) (w : World) (hm : RM w va ra M) (hf : RN w fa f) :
    Calls Tryd.prog 37 #[.agg #[.int .i64 M.worlds, .slice va M.val.length vc, .slice ra M.rel.length rc], .slice fa f.length fc] w fun e w' => RetS M f e w w' := by
  have hE0 := (Ext.refl w).alloc (.cells #[.int .i64 M.worlds, .slice va M.val.length vc, .slice ra M.rel.length rc] 25)
  have hm0 := hm.ext hE0
  have hf0 := hf.ext hE0
  have H := Lib.hid (request_any M va ra vc rc fa fc f _ hm0 hf0)
  have HE := Lib.hid hE0
  have HM := Lib.hid hm0
  have HF := Lib.hid hf0
  have hfl := hf.len
  clear hE0 hm hf hm0 hf0
  by_cases h : reqErr M f = 0
  · obtain ⟨h1, h2, _, _⟩ := reqErr_ok h
    obtain ⟨N, ok⟩ := moCheck_ok h1
    obtain ⟨hf0, hf200, hw⟩ := fCheck_ok.1 h2
    have hN : setsOf M f = (List.range f.length).map (fun k => (semT M (trAt f k)).1) := if_pos h
    have HN := Lib.hid hN
    have HR := Lib.hid h
    have HW := Lib.hid hw
    have OK := Lib.hid ok
    have mk1 := fun (w : World) => run_make_row' (P := Tryd.prog) 22 40 (.int .u64 0) 8 Tryd.underlying22 u64_info rfl .i64 .i64 f.length (by omega) (by omega) w
    have mk2 := fun (w : World) => run_make_row' (P := Tryd.prog) 117 4 (.bool false) 1 Tryd.underlying117 bool_info rfl .i64 .i64 f.length (by omega) (by omega) w
    clear h1 h2 hN h hw ok
    rename_i x1 x2
    clear x1 x2
    obtain ⟨m0, m1, m2⟩ := MoBox.new w M.worlds M.val M.rel va vc ra rc 25
    go_enter Tryd.func37, Tryd.ntmps37
    go_wp2_with (go_at_call 78; refine H.out.mono ?_; rintro e w1 ⟨rfl, hE1⟩; rw [HR.out]; have q0 := hE1.cell m0; have q1 := hE1.cell m1; have q2 := hE1.cell m2)
    have hS0 : SetsAt (w.alloc (.cells #[.int .i64 M.worlds, .slice va M.val.length vc, .slice ra M.rel.length rc] 25)) ((w1.alloc (.cells (madeCells #[.int .u64 0] f.length) 40)).alloc (.cells (madeCells #[.bool false] f.length) 4)) M f w1.heap.size (w1.heap.size + 1) 0 := by
      refine ⟨(hE1.alloc _).alloc _, ?_, ?_⟩
      · rw [doneL_zero]
        exact (OG.made (enc := uv) w1 f.length 0#64 hE1.size hfl).ext ((Ext.refl _).alloc _)
      · rw [doneL_zero]
        have := OG.made (enc := Value.bool) (T := 4) (w1.alloc (.cells (madeCells #[.int .u64 0] f.length) 40)) f.length false (Nat.le_trans hE1.size (by simp)) hfl
        simpa using this
    have HS0 := Lib.hid hS0
    have hgne : w1.heap.size ≠ w1.heap.size + 1 := by omega
    clear hS0 q0 q1 q2 mk1 mk2
    generalize w1.heap.size = g1 at HS0 hgne ⊢
    generalize hg2 : g1 + 1 = g2 at HS0 hgne ⊢
    generalize ((w1.alloc (.cells (madeCells #[.int .u64 0] f.length) 40)).alloc (.cells (madeCells #[.bool false] f.length) 4)) = wl at HS0 ⊢
    clear hE1 hg2
    go_loopw [26] (fun i wr => ∃ k : Nat, k ≤ f.length ∧ i = .int .i64 k ∧ SetsAt (w.alloc (.cells #[.int .i64 M.worlds, .slice va M.val.length vc, .slice ra M.rel.length rc] 25)) wr M f g1 g2 k) (fun i _ => f.length - (intOf i).toNat)
    case atStart => exact ⟨0, Nat.zero_le _, rfl, HS0.out⟩
    case round =>
      obtain ⟨k, hk, rfl, hs⟩ := hrel
      have HS := Lib.hid hs
      clear HS0
      by_cases hlt : k < f.length
      · obtain ⟨b, off, rfl, hb, n0, n1, n2, n3, n4, n5⟩ := (HF.out.ext hs.ext).get hlt
        obtain ⟨X, hX, hXl, hXk⟩ := nd_x HW.out hlt
        obtain ⟨Y, hY, hYl, hYk⟩ := nd_y HW.out hlt
        have hi0 := nd_i HW.out hlt
        have hg0 := nd_g HW.out hlt
        rw [hX] at n4
        rw [hY] at n5
        have q0 := hs.ext.cell m0
        have q1 := hs.ext.cell m1
        have q2 := hs.ext.cell m2
        have hwl : w.heap.size < wr.heap.size := by have := hs.ext.size; simp at this; omega
        have hs1l := hs.sets.lt
        have hs2l := hs.fine.lt
        have hb1 : w.heap.size ≠ g1 := by have := hs.sets.base_le; simp at this; omega
        have hb2 : w.heap.size ≠ g2 := by have := hs.fine.base_le; simp at this; omega
        have bx := hs.fine.cell hXl
        have by1 := hs.fine.cell hYl
        have cx : wr.cell? ⟨g1, X, none⟩ = some (.int .u64 (un (nth (doneL f.length k (fun j => (semT M (trAt f j)).1) 0#64) X))) := hs.sets.cell hXl
        have cy : wr.cell? ⟨g1, Y, none⟩ = some (.int .u64 (un (nth (doneL f.length k (fun j => (semT M (trAt f j)).1) 0#64) Y))) := hs.sets.cell hYl
        generalize hSX : nth (doneL f.length k (fun j => (semT M (trAt f j)).1) 0#64) X = sx at cx
        generalize hSY : nth (doneL f.length k (fun j => (semT M (trAt f j)).1) 0#64) Y = sy at cy
        generalize hBX : nth (doneL f.length k (fun j => (semT M (trAt f j)).2) false) X = fx at bx
        generalize hBY : nth (doneL f.length k (fun j => (semT M (trAt f j)).2) false) Y = fy at by1
        have hL : (nth f k).op < 4 → semT M (trAt f k) = valN M (nth f k).op (nth f k).i (nth f k).g sx sy := fun ho => sem_leaf HW.out M hlt sx sy ho
        have hU : 4 ≤ (nth f k).op → ¬ bin2 (nth f k).op → semT M (trAt f k) = if fx then valN M (nth f k).op (nth f k).i (nth f k).g sx sy else (0#64, false) := by
          intro h4 hb
          have hxk := hXk h4
          rw [doneL_nth _ _ _ _ hXl, if_pos hxk] at hSX hBX
          rw [sem_un HW.out M hlt hX sy h4 hb, hSX, hBX]
        have hB : bin2 (nth f k).op → semT M (trAt f k) = if fx && fy then valN M (nth f k).op (nth f k).i (nth f k).g sx sy else (0#64, false) := by
          intro hb
          have hxk := hXk (by unfold bin2 at hb; omega)
          have hyk := hYk hb
          rw [doneL_nth _ _ _ _ hXl, if_pos hxk] at hSX hBX
          rw [doneL_nth _ _ _ _ hYl, if_pos hyk] at hSY hBY
          rw [sem_bin HW.out M hlt hX hY hb, hSX, hBX, hSY, hBY]
        clear hSX hSY hBX hBY hX hXk hY hYk hs
        have h21 := nd_op HW.out hlt
        generalize (nth f k).op = op at n0 hL hU hB h21
        generalize (nth f k).i = ni at n1 hi0 hL hU hB
        generalize (nth f k).e = ne at n2
        generalize (nth f k).g = ng at n3 hg0 hL hU hB
        have hvc := fun W (h : RM W va ra M) => value_any M va ra vc rc ⟨op, ni, ne, ng, X, Y⟩ sx sy W h N OK.out hi0 hg0
        dsimp only at hvc
        have HVC := Lib.hid hvc
        clear hvc
        have hok : ∃ b1 b2 : Bool, b1 = (if op < 4 then true else fx) ∧ b2 = (if bin2B op then b1 && fy else b1) ∧ semT M (trAt f k) = if b2 then valN M op ni ng sx sy else (0#64, false) := by
          refine ⟨_, _, rfl, rfl, ?_⟩
          by_cases ho : op < 4
          · have hb : bin2B op = false := by unfold bin2B; simp; omega
            rw [hL ho, hb, if_pos ho]; rfl
          · rw [if_neg ho]
            by_cases hb : bin2B op = true
            · rw [hB ((bin2B_iff op).1 hb), hb]; rfl
            · rw [hU (by omega) (fun h => hb ((bin2B_iff op).2 h)), if_neg hb]
        obtain ⟨b1, b2, hb1, hb2, hv⟩ := hok
        have HV := Lib.hid hv
        have HB2 := Lib.hid hb2
        clear hL hU hB hv hb2
        go_upto_if 33 with fail
        go_cut [11] from 27 to 83 (fun s11 wc => s11 = .bool b1 ∧ wc = wr.alloc (.cells #[.int .i64 op, .int .i64 ni, .int .i64 ne, .int .i64 ng, .int .i64 (X : Int), .int .i64 (Y : Int)] 105))
        case first =>
          by_cases ho : op < 4
          · rw [if_pos ho] at hb1
            go_wp2_with fail
            go_meet
            case rel => exact ⟨by rw [hb1]; try rfl, rfl⟩
          · rw [if_neg ho] at hb1
            have h4 : 4 ≤ op := by omega
            go_wp2_with fail
            go_meet
            case rel => exact ⟨by rw [hb1]; try rfl, rfl⟩
        case rest =>
          obtain ⟨rfl, rfl⟩ := hcut
          go_upto_region 12 with fail
          go_cut [51] from 27 to 83 (fun s51 wc => s51 = .bool (bin2B op) ∧ wc = wr.alloc (.cells #[.int .i64 op, .int .i64 ni, .int .i64 ne, .int .i64 ng, .int .i64 (X : Int), .int .i64 (Y : Int)] 105))
          case first =>
            clear hb1
            by_cases hb : bin2B op = true
            · have hbb := hb
              unfold bin2B at hb
              simp only [decide_eq_true_eq] at hb
              by_cases h13 : op = 13
              · have e13 : (op == 13) = true := by simp [h13]
                have h5 : 5 ≤ op := by omega
                have hnb : 8 < op := by omega
                clear h13 hb
                go_wp2_with fail
                go_meet
                case rel => exact ⟨by rw [hbb]; try rfl, rfl⟩
              · have e13 : (op == 13) = false := by simp [h13]
                have hlo : 5 ≤ op ∧ op ≤ 8 := by omega
                obtain ⟨hlo1, hlo2⟩ := hlo
                clear h13 hb
                go_wp2_with fail
                go_meet
                case rel => exact ⟨by rw [hbb]; try rfl, rfl⟩
            · have hbb : bin2B op = false := by simpa using hb
              unfold bin2B at hb
              simp only [decide_eq_true_eq] at hb
              have e13 : (op == 13) = false := by simp; omega
              by_cases h5 : 5 ≤ op
              · have d8 : decide (op ≤ 8) = false := by simp; omega
                clear hb
                go_wp2_with fail
                go_meet
                case rel => exact ⟨by rw [hbb]; try rfl, rfl⟩
              · clear hb
                go_wp2_with fail
                go_meet
                case rel => exact ⟨by rw [hbb]; try rfl, rfl⟩
          case rest =>
          obtain ⟨rfl, rfl⟩ := hcut
          have hb2 := HB2.out
          go_upto_if 51 with fail
          go_cut [11] from 27 to 83 (fun s11 wc => s11 = .bool b2 ∧ wc = wr.alloc (.cells #[.int .i64 op, .int .i64 ni, .int .i64 ne, .int .i64 ng, .int .i64 (X : Int), .int .i64 (Y : Int)] 105))
          case first =>
            clear hb1
            cases hbb : bin2B op
            · rw [hbb] at hb2
              go_wp2_with fail
              go_meet
              case rel => exact ⟨by rw [hb2]; try rfl, rfl⟩
            · rw [hbb] at hb2
              cases b1
              · go_wp2_with fail
                go_meet
                case rel => exact ⟨by rw [hb2]; try rfl, rfl⟩
              · go_wp2_with fail
                go_meet
                case rel => exact ⟨by rw [hb2]; try rfl, rfl⟩
          case rest =>
            obtain ⟨rfl, rfl⟩ := hcut
            clear hb1 hb2 HB2
            cases b2
            · have HV2 : Hid (semT M (trAt f k) = (0#64, false)) := HV.out
              go_wp2_with fail
              go_roundw
              case rel =>
                exact ⟨k + 1, hlt, by go_num, (HS.out.mono ((Ext.refl wr).alloc _)).skip HV2.out⟩
              case measure => simp [intOf]; omega
            · have HV2 : Hid (semT M (trAt f k) = valN M op ni ng sx sy) := HV.out
              go_wp2_with fail
              refine wp_region_any (by kernel_rfl) ?_
              try (change wpAny _ _ _ _ _ _ _ (World.drew _))
              refine wpAny_take (i := 0) (v := ?_) rfl (by kernel_rfl) (by kernel_rfl) (by kernel_rfl) (fun _ _ _ h => h) (Or.inl ⟨by rfl, ?_⟩) ?_
              rotate_left
              focus (intro w; go_simp; try with_reducible rfl)
              refine wpAny_take (i := 1) (v := ?_) rfl (by kernel_rfl) (by kernel_rfl) (by kernel_rfl) (fun _ _ _ h => h) (Or.inl ⟨by rfl, ?_⟩) ?_
              rotate_left
              focus (intro w; go_simp; try with_reducible rfl)
              refine wpAny_take (i := 2) (v := ?_) rfl (by kernel_rfl) (by kernel_rfl) (by kernel_rfl) (fun _ _ _ h => h) (Or.inl ⟨by rfl, ?_⟩) ?_
              rotate_left
              focus (intro w; go_simp; try with_reducible rfl)
              refine wpAny_take (i := 3) (v := ?_) rfl (by kernel_rfl) (by kernel_rfl) (by kernel_rfl) (fun _ _ _ h => h) (Or.inl ⟨by rfl, ?_⟩) ?_
              rotate_left
              focus (intro w; go_simp; try with_reducible rfl)
              refine wpAny_headL (n := 16) [4, 5, 6, 7, 8, 9, 10, 11, 12, 13, 14, 15] 8 (by kernel_rfl) (.cons (.next (.next (.next (.next (.here))))) (.cons (.next (.next (.next (.next (.next (.here)))))) (.cons (.next (.next (.next (.next (.next (.next (.here))))))) (.cons (.next (.next (.next (.next (.next (.next (.next (.here)))))))) (.cons (.next (.next (.next (.next (.next (.next (.next (.next (.here))))))))) (.cons (.next (.next (.next (.next (.next (.next (.next (.next (.next (.here)))))))))) (.cons (.next (.next (.next (.next (.next (.next (.next (.next (.next (.next (.here))))))))))) (.cons (.next (.next (.next (.next (.next (.next (.next (.next (.next (.next (.next (.here)))))))))))) (.cons (.next (.next (.next (.next (.next (.next (.next (.next (.next (.next (.next (.next (.here))))))))))))) (.cons (.next (.next (.next (.next (.next (.next (.next (.next (.next (.next (.next (.next (.next (.here)))))))))))))) (.cons (.next (.next (.next (.next (.next (.next (.next (.next (.next (.next (.next (.next (.next (.next (.here))))))))))))))) (.cons (.next (.next (.next (.next (.next (.next (.next (.next (.next (.next (.next (.next (.next (.next (.next (.here)))))))))))))))) (.nil))))))))))))) ?_
              repeat still_step
              refine wpStill_nil ?_
              refine wpAny_ready (rs := [16]) (by kernel_rfl) (by simp) ?_
              refine AllReady.cons rfl (fun K hK => ?_) ?_
              rotate_left
              focus (exact AllReady.nil)
              go_simp
              go_wp2_with (go_at_call 79; refine (HVC.out _ (HM.out.ext ((HS.out.ext.alloc _).drew))).mono ?_; rintro en w2 ⟨rfl, hE2⟩; have hs2 := HS.out.mono (((Ext.refl wr).alloc _).drew.trans hE2); have HS2 := Lib.hid hs2; have z1 := hs2.sets.frozen k; have z2 := hs2.fine.frozen k; have z3 := hs2.sets.cell hlt; have z4 := hs2.fine.cell hlt; have z5 := hs2.sets.lt; have z6 := hs2.fine.lt; clear hs2)
              try (refine hK _ _ ?_)
              refine wpAny_take (i := 17) (v := ?_) rfl (by kernel_rfl) (by kernel_rfl) (by kernel_rfl) (fun _ _ _ h => h) (Or.inl ⟨by rfl, ?_⟩) ?_
              rotate_left
              focus (intro w; go_simp; try with_reducible rfl)
              refine wpAny_take (i := 18) (v := ?_) rfl (by kernel_rfl) (by kernel_rfl) (by kernel_rfl) (fun _ _ _ h => h) (Or.inl ⟨by rfl, ?_⟩) ?_
              rotate_left
              focus (intro w; go_simp; try with_reducible rfl)
              refine wpAny_take (i := 19) (v := ?_) rfl (by kernel_rfl) (by kernel_rfl) (by kernel_rfl) (fun _ _ _ h => h) (Or.inl ⟨by rfl, ?_⟩) ?_
              rotate_left
              focus (intro w; go_simp; try with_reducible rfl)
              refine wpAny_take (i := 20) (v := ?_) rfl (by kernel_rfl) (by kernel_rfl) (by kernel_rfl) (fun _ _ _ h => h) (Or.inl ⟨by rfl, ?_⟩) ?_
              rotate_left
              focus (intro w; go_simp; try with_reducible rfl)
              refine wpAny_of_seqL [21, 22, 23] _ _ _ _ (.cons (.next (.next (.next (.next (.next (.next (.next (.next (.next (.next (.next (.next (.next (.next (.next (.next (.next (.next (.next (.next (.next (.here)))))))))))))))))))))) (.cons (.next (.next (.next (.next (.next (.next (.next (.next (.next (.next (.next (.next (.next (.next (.next (.next (.next (.next (.next (.next (.next (.next (.here))))))))))))))))))))))) (.cons (.next (.next (.next (.next (.next (.next (.next (.next (.next (.next (.next (.next (.next (.next (.next (.next (.next (.next (.next (.next (.next (.next (.next (.here)))))))))))))))))))))))) (.nil)))) (by kernel_rfl) ?_
              go_wp2
              go_roundw
              case rel =>
                exact ⟨k + 1, hlt, by go_num, SetsAt.put HS2.out hgne hlt HV2.out⟩
              case measure => simp [intOf]; omega
      · obtain rfl : k = f.length := by omega
        go_wp2
        go_ret2
        have hs2 := HS.out.sets
        rw [doneL_all] at hs2
        refine ⟨some ⟨g1, 0, none⟩, f.length, ?_, ?_, HE.out.trans HS.out.ext⟩
        · rw [HN.out, HR.out]; simp
        · rw [HN.out]; exact RU_of_OG hs2 hfl
  · have hN : setsOf M f = [] := if_neg h
    have HN := Lib.hid hN
    have hq : (reqErr M f != 0) = true := by simp [h]
    clear hN h
    go_enter Tryd.func37, Tryd.ntmps37
    go_wp2_with (go_at_call 78; refine H.out.mono ?_; rintro e w1 ⟨rfl, hE1⟩)
    go_ret2
    exact ⟨none, 0, by rw [HN.out]; rfl, by rw [HN.out]; exact RU.nil _ _, HE.out.trans hE1⟩
end Wt

/- Walks: checker.Holds, At, Valid. -/
namespace Wt
open Go Go.RowKit Go.Proofs Fm

/-- The set of the whole formula. -/
def lastSet (M : Mo) (f : List Nd) : BitVec 64 := (semT M (trAt f (f.length - 1))).1
def holdsOf (M : Mo) (f : List Nd) : BitVec 64 := if reqErr M f = 0 then lastSet M f else 0#64
def RetP (v : Value) (c : Int) (e : Ending) (w w' : World) : Prop := e = .returned (.tuple #[v, .int .i64 c]) ∧ Ext w w'
set_option maxRecDepth 20000 in
set_option maxHeartbeats 1000000 in
theorem holds_any (M : Mo) (va ra : Option Addr) (vc rc : Nat) (fa : Option Addr) (fc : Nat) (f : List Nd) (w : World) (hm : RM w va ra M) (hf : RN w fa f) :
    Calls Tryd.prog 53 #[.agg #[.int .i64 M.worlds, .slice va M.val.length vc, .slice ra M.rel.length rc], .slice fa f.length fc] w fun e w' => RetP (.int .u64 (un (holdsOf M f))) (reqErr M f) e w w' := by
  have hE0 := (Ext.refl w).alloc (.cells #[.int .i64 M.worlds, .slice va M.val.length vc, .slice ra M.rel.length rc] 25)
  have H := Lib.hid (sets_any M va ra vc rc fa fc f _ (hm.ext hE0) (hf.ext hE0))
  have HE := Lib.hid hE0
  clear hE0 hm hf
  by_cases h : reqErr M f = 0
  · obtain ⟨h1, h2, _, _⟩ := reqErr_ok h
    obtain ⟨hf0, hf200, hw⟩ := fCheck_ok.1 h2
    have hN : holdsOf M f = lastSet M f := if_pos h
    have hS : setsOf M f = (List.range f.length).map (fun k => (semT M (trAt f k)).1) := if_pos h
    have hSl : (setsOf M f).length = f.length := by rw [hS]; simp
    have hSn : nth (setsOf M f) (f.length - 1) = lastSet M f := by
      rw [nth_eq _ _ (by omega)]
      simp [hS, lastSet]
    have HN := Lib.hid hN
    have HR := Lib.hid h
    have HS := Lib.hid hSn
    have HL := Lib.hid hSl
    clear h1 h2 hN h hS hSn hSl hw
    rename_i x1 x2
    clear x1 x2
    have hsub : IntKind.i64.wrap ((f.length : Int) - 1) = ((f.length - 1 : Nat) : Int) := by rw [IntWalk.i64_in _ (by omega)]; omega
    go_enter Tryd.func53, Tryd.ntmps53
    go_wp2_with (go_at_call 37; refine H.out.mono ?_; rintro e w1 ⟨a, c, rfl, hu, hE1⟩; obtain ⟨gb, goff, rfl, hgb, hgc⟩ := hu.get (k := f.length - 1) (by rw [HL.out]; omega); rw [HS.out] at hgc; rw [HL.out, HR.out])
    go_ret2
    exact ⟨by rw [HN.out, HR.out]; rfl, HE.out.trans hE1⟩
  · have hN : holdsOf M f = 0#64 := if_neg h
    have HN := Lib.hid hN
    have hq : (reqErr M f != 0) = true := by simp [h]
    clear hN h
    go_enter Tryd.func53, Tryd.ntmps53
    go_wp2_with (go_at_call 37; refine H.out.mono ?_; rintro e w1 ⟨a, c, rfl, hu, hE1⟩)
    go_ret2
    exact ⟨by rw [HN.out]; rfl, HE.out.trans hE1⟩
/-- Is a world one of a model's? -/
def inMo (M : Mo) (x : Int) : Bool := decide (0 ≤ x ∧ x < M.worlds)
def atErr (M : Mo) (x : Int) (f : List Nd) : Int := if reqErr M f ≠ 0 then reqErr M f else if inMo M x then 0 else 2
def atOf (M : Mo) (x : Int) (f : List Nd) : Bool := atErr M x f == 0 && bt (holdsOf M f) x.toNat
def validOf (M : Mo) (f : List Nd) : Bool := reqErr M f == 0 && holdsOf M f == allW M.worlds.toNat
end Wt

/- Walks: wittinglaw17.example, holds; what the examples of the chapter come to. -/
namespace Wt
open Go Go.RowKit Go.Maps Go.Proofs Fm

/-- The model of the example of the chapter. -/
def exM : Mo := ⟨3, [3#64], [[3#64, 3#64, 4#64], [1#64, 6#64, 6#64]]⟩
def RetM (M : Mo) (e : Ending) (w w' : World) : Prop := ∃ va ra vc rc, e = .returned (.agg #[.int .i64 M.worlds, .slice va M.val.length vc, .slice ra M.rel.length rc]) ∧ RM w' va ra M ∧ Ext w w'
theorem RU.lit (w : World) (l : List (BitVec 64)) (cs : Array Value) (T : Nat) (h : cs = (l.map uv).toArray) (hl : l.length ≤ 1000) : RU (w.alloc (.cells cs T)) (some ⟨w.heap.size, 0, none⟩) l := by
  subst h
  refine ⟨by omega, fun k hk => ⟨w.heap.size, 0, rfl, ?_⟩⟩
  rw [nth_eq _ _ hk]
  simp [hk, uv]
theorem results_cell_one {fn : Func} {p : Tmp} {ty : TypeId} (h : fn.results = #[.cell p ty]) (tmps : Array Value) (P : Program) (w : World) :
    (results fn tmps).run P w = ((asAddr (tmps.getD p undef)).run P w).andThen fun a w₁ => ((loadVar ty a).run P w₁).andThen fun v w₂ => .ok v w₂ := by
  simp only [results, h]
  simp [Sem.run_bind, Result.andThen]
  cases (asAddr (tmps[p]?.getD undef)).run P w with
  | ok a w => dsimp only; cases (loadVar ty a).run P w <;> rfl
  | halt h w => rfl
/-- Does a formula hold in just these worlds of the example? -/
def hb (f : List Nd) (s : BitVec 64) : Bool := reqErr exM f == 0 && holdsOf exM f == s
/-! The examples. -/
def exP : List Nd := fB ⟨3, 0, 0, 0, 0, 0⟩ []
def exT : List Nd := fB ⟨1, 0, 0, 0, 0, 0⟩ []
def exN : List Nd := fB ⟨4, 0, 0, 0, 0, 0⟩ [exP]
theorem ex1 : hb (fB ⟨9, 0, 0, 0, 0, 0⟩ [exP]) 3#64 = true := by decide +kernel
theorem ex2 : hb (fB ⟨9, 1, 0, 0, 0, 0⟩ [exP]) 1#64 = true := by decide +kernel
theorem ex3 : hb (fB ⟨11, 0, 0, 3, 0, 0⟩ [exP]) 1#64 = true := by decide +kernel
theorem ex4 : hb (fB ⟨12, 0, 0, 3, 0, 0⟩ [exP]) 3#64 = true := by decide +kernel
theorem ex5 : hb (fB ⟨13, 0, 0, 3, 0, 0⟩ [exT, exP]) 0#64 = true := by decide +kernel
theorem ex6 : hb (fB ⟨13, 0, 0, 3, 0, 0⟩ [exP, exP]) 7#64 = true := by decide +kernel
theorem ex7 : hb (fB ⟨10, 1, 0, 0, 0, 0⟩ [exN]) 6#64 = true := by decide +kernel
theorem ex8 : atOf exM 1 exP = true ∧ atErr exM 1 exP = 0 := by decide +kernel
theorem ex9 : validOf exM (fB ⟨6, 0, 0, 0, 0, 0⟩ [exP, exN]) = true ∧ reqErr exM (fB ⟨6, 0, 0, 0, 0, 0⟩ [exP, exN]) = 0 := by decide +kernel
theorem ex10 : reqErr exM (fB ⟨15, 0, 0, 0, 0, 0⟩ [exP]) = 10 := by decide +kernel
theorem ex11 : reqErr exM (fB ⟨9, 2, 0, 0, 0, 0⟩ [exP]) = 2 := by decide +kernel
end Wt

/- Walk: wittinglaw17.awake (printed by gen_lawb.py). -/
namespace Wt
open Go Go.RowKit Go.Maps Go.Proofs Fm

def exC5 : List Nd := fB ⟨13, 0, 0, 3, 0, 0⟩ [exT, exP]
def exC6 : List Nd := fB ⟨13, 0, 0, 3, 0, 0⟩ [exP, exP]
def exQ7 : List Nd := fB ⟨10, 1, 0, 0, 0, 0⟩ [exN]
def exO : List Nd := fB ⟨6, 0, 0, 0, 0, 0⟩ [exP, exN]
def exK0 : List Nd := fB ⟨9, 0, 0, 0, 0, 0⟩ [exP]
def exK1 : List Nd := fB ⟨9, 1, 0, 0, 0, 0⟩ [exP]
def exK2 : List Nd := fB ⟨9, 2, 0, 0, 0, 0⟩ [exP]
def exE3 : List Nd := fB ⟨11, 0, 0, 3, 0, 0⟩ [exP]
def exD3 : List Nd := fB ⟨12, 0, 0, 3, 0, 0⟩ [exP]
def exS0 : List Nd := fB ⟨15, 0, 0, 0, 0, 0⟩ [exP]
theorem RM.ext' {w w' : World} {va ra : Option Addr} {M : Mo} (r : RM w va ra M) (h : Ext w w') : RM w' va ra M := RM.ext h r
end Wt

/- Walks: wittingref13.Few, wittinglaw17.few. -/
namespace Wt
open Go Go.RowKit Go.Maps Go.Proofs Fm

def RetB (e : Ending) (w w' : World) : Prop := ∃ b, e = .returned (.bool b) ∧ Ext w w'
set_option maxRecDepth 20000 in
set_option maxHeartbeats 2000000 in
theorem r13Few_any (M : Mo) (va ra : Option Addr) (vc rc : Nat) (n : Int) (w : World) (hm : RM w va ra M) :
    Calls Tryd.prog 17 #[.agg #[.int .i64 M.worlds, .slice va M.val.length vc, .slice ra M.rel.length rc], .int .i64 n] w fun e w' => RetB e w w' := by
  obtain ⟨W, V, R⟩ := M
  have hE0 := (Ext.refl w).alloc (.cells #[.int .i64 W, .slice va V.length vc, .slice ra R.length rc] 25)
  have hR : RR _ ra R := (hm.ext hE0).rel
  obtain ⟨m0, m1, m2⟩ := MoBox.new w W V R va vc ra rc 25
  have hvl := hm.val.len
  have hrl := hm.rel.len
  dsimp only at hvl hrl m0 m1 m2 ⊢
  have HE := Lib.hid hE0
  have HR := Lib.hid hR
  clear hE0 hm hR
  by_cases hc : (n < W ∧ W ≤ 64) ∨ 20 < V.length ∨ 10 < R.length
  · go_enter Tryd.func17, Tryd.ntmps17
    go_wp2
    all_goals first
      | (go_ret; exact ⟨_, rfl, HE.out⟩)
      | (exfalso; omega)
  · have e3 : decide ((20 : Int) < (V.length : Int)) = false := by simp; omega
    have e4 : decide ((10 : Int) < (R.length : Int)) = false := by simp; omega
    by_cases h1 : n < W
    · have e1 : decide (n < W) = true := by simpa using h1
      have e2 : decide (W ≤ 64) = false := by simp; omega
      clear hc h1
      go_enter Tryd.func17, Tryd.ntmps17
      go_wp2
      go_loop [5] (fun i => ∃ k : Nat, k ≤ R.length ∧ i = .int .i64 k) (fun i => R.length - (intOf i).toNat)
      case atStart => exact ⟨0, Nat.zero_le _, rfl⟩
      case round =>
        obtain ⟨k, hk, rfl⟩ := hrel
        by_cases hlt : k < R.length
        · obtain ⟨b, off, a', c', rfl, hb, hc', hu⟩ := HR.out.get hlt
          have hul := hu.len
          by_cases hq : 70 < (nth R k).length
          · go_wp2
            go_ret
            exact ⟨_, rfl, HE.out⟩
          · go_wp2
            go_round
            case rel => exact ⟨k + 1, hlt, by go_num⟩
            case measure => simp [intOf]; omega
        · go_wp2
          go_ret
          exact ⟨_, rfl, HE.out⟩
    · have e1 : decide (n < W) = false := by simp; omega
      clear hc h1
      go_enter Tryd.func17, Tryd.ntmps17
      go_wp2
      go_loop [5] (fun i => ∃ k : Nat, k ≤ R.length ∧ i = .int .i64 k) (fun i => R.length - (intOf i).toNat)
      case atStart => exact ⟨0, Nat.zero_le _, rfl⟩
      case round =>
        obtain ⟨k, hk, rfl⟩ := hrel
        by_cases hlt : k < R.length
        · obtain ⟨b, off, a', c', rfl, hb, hc', hu⟩ := HR.out.get hlt
          have hul := hu.len
          by_cases hq : 70 < (nth R k).length
          · go_wp2
            go_ret
            exact ⟨_, rfl, HE.out⟩
          · go_wp2
            go_round
            case rel => exact ⟨k + 1, hlt, by go_num⟩
            case measure => simp [intOf]; omega
        · go_wp2
          go_ret
          exact ⟨_, rfl, HE.out⟩
/-- Whether the formulas are small, and more. -/
def RetF (os : List (List Nd)) (e : Ending) (w w' : World) : Prop := ∃ b, e = .returned (.bool b) ∧ Ext w w' ∧ (b = true → ∀ j, j < os.length → (nth os j).length ≤ 60)
end Wt
