/- Walks: checker.Sets. -/
import Derived.Test.YtdnpgadkklgjeaaDoorCkB
import Derived.Test.YtdnpgadkklgjeaaDoorOwn
import Derived.Deep.CutRange
import Derived.Deep.OwnRows
namespace Wt
open Go Go.RowKit Go.Proofs Fm

def setsOf (M : Mo) (f : List Nd) : List (BitVec 64) := if reqErr M f = 0 then (List.range f.length).map (fun k => (semT M (trAt f k)).1) else []
def RetS (M : Mo) (f : List Nd) (e : Ending) (w w' : World) : Prop := ∃ a c, e = .returned (.tuple #[.slice a (setsOf M f).length c, .int .i64 (reqErr M f)]) ∧ RU w' a (setsOf M f) ∧ Ext w w'
theorem reqErr_ok {M : Mo} {f : List Nd} (h : reqErr M f = 0) : moCheck M = 0 ∧ fCheck f = 0 ∧ fFrags f < 16 ∧ fFits f M.rel.length M.val.length = true := by
  unfold reqErr at h
  by_cases h1 : moCheck M = 0
  · rw [if_neg (by simp [h1])] at h
    by_cases h2 : fCheck f = 0
    · rw [if_neg (by simp [h2])] at h
      by_cases h3 : 16 ≤ fFrags f
      · rw [if_pos h3] at h; omega
      · rw [if_neg h3] at h
        by_cases h4 : fFits f M.rel.length M.val.length = false
        · rw [if_pos h4] at h; omega
        · exact ⟨h1, h2, by omega, by simpa using h4⟩
    · rw [if_pos h2] at h; exact absurd h h2
  · rw [if_pos h1] at h; exact absurd h h1
theorem bool_info : (Tryd.prog.info? 4).map (fun i => (i.zero, i.size, i.bytes)) = some (some (.bool false), 1, 1) := by kernel_rfl
theorem cell_setOther (w : World) (g k b o : Nat) (u : Value) (h : b ≠ g) : (w.setCell ⟨g, k, none⟩ u).cell? ⟨b, o, none⟩ = w.cell? ⟨b, o, none⟩ :=
  World.cell?_of_block (heap_setCell_other w ⟨g, k, none⟩ b u h)
def bin2B (o : Int) : Bool := decide ((5 ≤ o ∧ o ≤ 8) ∨ o = 13)
theorem bin2B_iff (o : Int) : bin2B o = true ↔ bin2 o := by simp [bin2B, bin2]
/-- What a round of Sets keeps. -/
structure SetsAt (W0 wr : World) (M : Mo) (f : List Nd) (g1 g2 k : Nat) : Prop where
  ext : Ext W0 wr
  sets : OG wr W0.heap.size 31 uv g1 f.length f.length (doneL f.length k (fun j => (semT M (trAt f j)).1) 0#64)
  fine : OG wr W0.heap.size 4 Value.bool g2 f.length f.length (doneL f.length k (fun j => (semT M (trAt f j)).2) false)
theorem SetsAt.mono {W0 wr w2 : World} {M : Mo} {f : List Nd} {g1 g2 k : Nat} (h : SetsAt W0 wr M f g1 g2 k) (e : Ext wr w2) : SetsAt W0 w2 M f g1 g2 k :=
  ⟨h.ext.trans e, h.sets.ext e, h.fine.ext e⟩
theorem SetsAt.skip {W0 wr : World} {M : Mo} {f : List Nd} {g1 g2 k : Nat} (h : SetsAt W0 wr M f g1 g2 k) (e : semT M (trAt f k) = (0#64, false)) : SetsAt W0 wr M f g1 g2 (k + 1) :=
  ⟨h.ext, by rw [← doneL_skip _ _ _ _ (by rw [e])]; exact h.sets, by rw [← doneL_skip _ _ _ _ (by rw [e])]; exact h.fine⟩
theorem SetsAt.put {W0 wr : World} {M : Mo} {f : List Nd} {g1 g2 k : Nat} (h : SetsAt W0 wr M f g1 g2 k) (hne : g1 ≠ g2) (hk : k < f.length) {p : BitVec 64 × Bool} (e : semT M (trAt f k) = p) :
    SetsAt W0 ((wr.setCell ⟨g1, k, none⟩ (.int .u64 (un p.1))).setCell ⟨g2, k, none⟩ (.bool p.2)) M f g1 g2 (k + 1) := by
  subst e
  refine ⟨(h.ext.setCell h.sets.base_le _).setCell h.fine.base_le _, ?_, ?_⟩
  · rw [← doneL_set _ _ _ _ hk]
    exact (h.sets.set k _).other _ _ hne
  · rw [← doneL_set _ _ _ _ hk]
    exact (h.fine.other _ _ (Ne.symm hne)).set k _

set_option maxRecDepth 20000 in
set_option maxHeartbeats 10000000 in
theorem sets_any (M : Mo) (va ra : Option Addr) (vc rc : Nat) (fa : Option Addr) (fc : Nat) (f : List Nd) (w : World) (hm : RM w va ra M) (hf : RN w fa f) :
    Calls Tryd.prog 34 #[.agg #[.int .i64 M.worlds, .slice va M.val.length vc, .slice ra M.rel.length rc], .slice fa f.length fc] w fun e w' => RetS M f e w w' := by
  have hE0 := (Ext.refl w).alloc (.cells #[.int .i64 M.worlds, .slice va M.val.length vc, .slice ra M.rel.length rc] 25)
  have hm0 := hm.ext hE0
  have hf0 := hf.ext hE0
  have H := Lib.hid (request_any M va ra vc rc fa fc f _ hm0 hf0)
  have HE := Lib.hid hE0
  have HM := Lib.hid hm0
  have HF := Lib.hid hf0
  have hfl := hf.len
  clear hE0 hm hf hm0 hf0
  by_cases h : reqErr M f = 0
  · obtain ⟨h1, h2, _, _⟩ := reqErr_ok h
    obtain ⟨N, ok⟩ := moCheck_ok h1
    obtain ⟨hf0, hf200, hw⟩ := fCheck_ok.1 h2
    have hN : setsOf M f = (List.range f.length).map (fun k => (semT M (trAt f k)).1) := if_pos h
    have HN := Lib.hid hN
    have HR := Lib.hid h
    have HW := Lib.hid hw
    have OK := Lib.hid ok
    have mk1 := fun (w : World) => run_make_row' (P := Tryd.prog) 22 31 (.int .u64 0) 8 Tryd.underlying22 u64_info rfl .i64 .i64 f.length (by omega) (by omega) w
    have mk2 := fun (w : World) => run_make_row' (P := Tryd.prog) 78 4 (.bool false) 1 Tryd.underlying78 bool_info rfl .i64 .i64 f.length (by omega) (by omega) w
    clear h1 h2 hN h hw ok
    rename_i x1 x2
    clear x1 x2
    obtain ⟨m0, m1, m2⟩ := MoBox.new w M.worlds M.val M.rel va vc ra rc 25
    go_enter Tryd.func34, Tryd.ntmps34
    go_wp2_with (go_at_call 45; refine H.out.mono ?_; rintro e w1 ⟨rfl, hE1⟩; rw [HR.out]; have q0 := hE1.cell m0; have q1 := hE1.cell m1; have q2 := hE1.cell m2)
    have hS0 : SetsAt (w.alloc (.cells #[.int .i64 M.worlds, .slice va M.val.length vc, .slice ra M.rel.length rc] 25)) ((w1.alloc (.cells (madeCells #[.int .u64 0] f.length) 31)).alloc (.cells (madeCells #[.bool false] f.length) 4)) M f w1.heap.size (w1.heap.size + 1) 0 := by
      refine ⟨(hE1.alloc _).alloc _, ?_, ?_⟩
      · rw [doneL_zero]
        exact (OG.made (enc := uv) w1 f.length 0#64 hE1.size hfl).ext ((Ext.refl _).alloc _)
      · rw [doneL_zero]
        have := OG.made (enc := Value.bool) (T := 4) (w1.alloc (.cells (madeCells #[.int .u64 0] f.length) 31)) f.length false (Nat.le_trans hE1.size (by simp)) hfl
        simpa using this
    have HS0 := Lib.hid hS0
    have hgne : w1.heap.size ≠ w1.heap.size + 1 := by omega
    clear hS0 q0 q1 q2 mk1 mk2
    generalize w1.heap.size = g1 at HS0 hgne ⊢
    generalize hg2 : g1 + 1 = g2 at HS0 hgne ⊢
    generalize ((w1.alloc (.cells (madeCells #[.int .u64 0] f.length) 31)).alloc (.cells (madeCells #[.bool false] f.length) 4)) = wl at HS0 ⊢
    clear hE1 hg2
    go_loopw [26] (fun i wr => ∃ k : Nat, k ≤ f.length ∧ i = .int .i64 k ∧ SetsAt (w.alloc (.cells #[.int .i64 M.worlds, .slice va M.val.length vc, .slice ra M.rel.length rc] 25)) wr M f g1 g2 k) (fun i _ => f.length - (intOf i).toNat)
    case atStart => exact ⟨0, Nat.zero_le _, rfl, HS0.out⟩
    case round =>
      obtain ⟨k, hk, rfl, hs⟩ := hrel
      have HS := Lib.hid hs
      clear HS0
      by_cases hlt : k < f.length
      · obtain ⟨b, off, rfl, hb, n0, n1, n2, n3, n4, n5⟩ := (HF.out.ext hs.ext).get hlt
        obtain ⟨X, hX, hXl, hXk⟩ := nd_x HW.out hlt
        obtain ⟨Y, hY, hYl, hYk⟩ := nd_y HW.out hlt
        have hi0 := nd_i HW.out hlt
        have hg0 := nd_g HW.out hlt
        rw [hX] at n4
        rw [hY] at n5
        have q0 := hs.ext.cell m0
        have q1 := hs.ext.cell m1
        have q2 := hs.ext.cell m2
        have hwl : w.heap.size < wr.heap.size := by have := hs.ext.size; simp at this; omega
        have hs1l := hs.sets.lt
        have hs2l := hs.fine.lt
        have hb1 : w.heap.size ≠ g1 := by have := hs.sets.base_le; simp at this; omega
        have hb2 : w.heap.size ≠ g2 := by have := hs.fine.base_le; simp at this; omega
        have bx := hs.fine.cell hXl
        have by1 := hs.fine.cell hYl
        have cx : wr.cell? ⟨g1, X, none⟩ = some (.int .u64 (un (nth (doneL f.length k (fun j => (semT M (trAt f j)).1) 0#64) X))) := hs.sets.cell hXl
        have cy : wr.cell? ⟨g1, Y, none⟩ = some (.int .u64 (un (nth (doneL f.length k (fun j => (semT M (trAt f j)).1) 0#64) Y))) := hs.sets.cell hYl
        generalize hSX : nth (doneL f.length k (fun j => (semT M (trAt f j)).1) 0#64) X = sx at cx
        generalize hSY : nth (doneL f.length k (fun j => (semT M (trAt f j)).1) 0#64) Y = sy at cy
        generalize hBX : nth (doneL f.length k (fun j => (semT M (trAt f j)).2) false) X = fx at bx
        generalize hBY : nth (doneL f.length k (fun j => (semT M (trAt f j)).2) false) Y = fy at by1
        have hL : (nth f k).op < 4 → semT M (trAt f k) = valN M (nth f k).op (nth f k).i (nth f k).g sx sy := fun ho => sem_leaf HW.out M hlt sx sy ho
        have hU : 4 ≤ (nth f k).op → ¬ bin2 (nth f k).op → semT M (trAt f k) = if fx then valN M (nth f k).op (nth f k).i (nth f k).g sx sy else (0#64, false) := by
          intro h4 hb
          have hxk := hXk h4
          rw [doneL_nth _ _ _ _ hXl, if_pos hxk] at hSX hBX
          rw [sem_un HW.out M hlt hX sy h4 hb, hSX, hBX]
        have hB : bin2 (nth f k).op → semT M (trAt f k) = if fx && fy then valN M (nth f k).op (nth f k).i (nth f k).g sx sy else (0#64, false) := by
          intro hb
          have hxk := hXk (by unfold bin2 at hb; omega)
          have hyk := hYk hb
          rw [doneL_nth _ _ _ _ hXl, if_pos hxk] at hSX hBX
          rw [doneL_nth _ _ _ _ hYl, if_pos hyk] at hSY hBY
          rw [sem_bin HW.out M hlt hX hY hb, hSX, hBX, hSY, hBY]
        clear hSX hSY hBX hBY hX hXk hY hYk hs
        have h21 := nd_op HW.out hlt
        generalize (nth f k).op = op at n0 hL hU hB h21
        generalize (nth f k).i = ni at n1 hi0 hL hU hB
        generalize (nth f k).e = ne at n2
        generalize (nth f k).g = ng at n3 hg0 hL hU hB
        have hvc := fun W (h : RM W va ra M) => value_any M va ra vc rc ⟨op, ni, ne, ng, X, Y⟩ sx sy W h N OK.out hi0 hg0
        dsimp only at hvc
        have HVC := Lib.hid hvc
        clear hvc
        have hok : ∃ b1 b2 : Bool, b1 = (if op < 4 then true else fx) ∧ b2 = (if bin2B op then b1 && fy else b1) ∧ semT M (trAt f k) = if b2 then valN M op ni ng sx sy else (0#64, false) := by
          refine ⟨_, _, rfl, rfl, ?_⟩
          by_cases ho : op < 4
          · have hb : bin2B op = false := by unfold bin2B; simp; omega
            rw [hL ho, hb, if_pos ho]; rfl
          · rw [if_neg ho]
            by_cases hb : bin2B op = true
            · rw [hB ((bin2B_iff op).1 hb), hb]; rfl
            · rw [hU (by omega) (fun h => hb ((bin2B_iff op).2 h)), if_neg hb]
        obtain ⟨b1, b2, hb1, hb2, hv⟩ := hok
        have HV := Lib.hid hv
        have HB2 := Lib.hid hb2
        clear hL hU hB hv hb2
        go_upto_if 33 with fail
        go_cut [11] from 27 to 83 (fun s11 wc => s11 = .bool b1 ∧ wc = wr.alloc (.cells #[.int .i64 op, .int .i64 ni, .int .i64 ne, .int .i64 ng, .int .i64 (X : Int), .int .i64 (Y : Int)] 62))
        case first =>
          by_cases ho : op < 4
          · rw [if_pos ho] at hb1
            go_wp2_with fail
            go_meet
            case rel => exact ⟨by rw [hb1]; try rfl, rfl⟩
          · rw [if_neg ho] at hb1
            have h4 : 4 ≤ op := by omega
            go_wp2_with fail
            go_meet
            case rel => exact ⟨by rw [hb1]; try rfl, rfl⟩
        case rest =>
          obtain ⟨rfl, rfl⟩ := hcut
          go_upto_region 12 with fail
          go_cut [51] from 27 to 83 (fun s51 wc => s51 = .bool (bin2B op) ∧ wc = wr.alloc (.cells #[.int .i64 op, .int .i64 ni, .int .i64 ne, .int .i64 ng, .int .i64 (X : Int), .int .i64 (Y : Int)] 62))
          case first =>
            clear hb1
            by_cases hb : bin2B op = true
            · have hbb := hb
              unfold bin2B at hb
              simp only [decide_eq_true_eq] at hb
              by_cases h13 : op = 13
              · have e13 : (op == 13) = true := by simp [h13]
                have h5 : 5 ≤ op := by omega
                have hnb : 8 < op := by omega
                clear h13 hb
                go_wp2_with fail
                go_meet
                case rel => exact ⟨by rw [hbb]; try rfl, rfl⟩
              · have e13 : (op == 13) = false := by simp [h13]
                have hlo : 5 ≤ op ∧ op ≤ 8 := by omega
                obtain ⟨hlo1, hlo2⟩ := hlo
                clear h13 hb
                go_wp2_with fail
                go_meet
                case rel => exact ⟨by rw [hbb]; try rfl, rfl⟩
            · have hbb : bin2B op = false := by simpa using hb
              unfold bin2B at hb
              simp only [decide_eq_true_eq] at hb
              have e13 : (op == 13) = false := by simp; omega
              by_cases h5 : 5 ≤ op
              · have d8 : decide (op ≤ 8) = false := by simp; omega
                clear hb
                go_wp2_with fail
                go_meet
                case rel => exact ⟨by rw [hbb]; try rfl, rfl⟩
              · clear hb
                go_wp2_with fail
                go_meet
                case rel => exact ⟨by rw [hbb]; try rfl, rfl⟩
          case rest =>
          obtain ⟨rfl, rfl⟩ := hcut
          have hb2 := HB2.out
          go_upto_if 51 with fail
          go_cut [11] from 27 to 83 (fun s11 wc => s11 = .bool b2 ∧ wc = wr.alloc (.cells #[.int .i64 op, .int .i64 ni, .int .i64 ne, .int .i64 ng, .int .i64 (X : Int), .int .i64 (Y : Int)] 62))
          case first =>
            clear hb1
            cases hbb : bin2B op
            · rw [hbb] at hb2
              go_wp2_with fail
              go_meet
              case rel => exact ⟨by rw [hb2]; try rfl, rfl⟩
            · rw [hbb] at hb2
              cases b1
              · go_wp2_with fail
                go_meet
                case rel => exact ⟨by rw [hb2]; try rfl, rfl⟩
              · go_wp2_with fail
                go_meet
                case rel => exact ⟨by rw [hb2]; try rfl, rfl⟩
          case rest =>
            obtain ⟨rfl, rfl⟩ := hcut
            clear hb1 hb2 HB2
            cases b2
            · have HV2 : Hid (semT M (trAt f k) = (0#64, false)) := HV.out
              go_wp2_with fail
              go_roundw
              case rel =>
                exact ⟨k + 1, hlt, by go_num, (HS.out.mono ((Ext.refl wr).alloc _)).skip HV2.out⟩
              case measure => simp [intOf]; omega
            · have HV2 : Hid (semT M (trAt f k) = valN M op ni ng sx sy) := HV.out
              go_wp2_with fail
              refine wp_region_any (by kernel_rfl) ?_
              try (change wpAny _ _ _ _ _ _ _ (World.drew _))
              refine wpAny_take (i := 0) (v := ?_) rfl (by kernel_rfl) (by kernel_rfl) (by kernel_rfl) (fun _ _ _ h => h) (Or.inl ⟨by rfl, ?_⟩) ?_
              rotate_left
              focus (intro w; go_simp; try with_reducible rfl)
              refine wpAny_take (i := 1) (v := ?_) rfl (by kernel_rfl) (by kernel_rfl) (by kernel_rfl) (fun _ _ _ h => h) (Or.inl ⟨by rfl, ?_⟩) ?_
              rotate_left
              focus (intro w; go_simp; try with_reducible rfl)
              refine wpAny_take (i := 2) (v := ?_) rfl (by kernel_rfl) (by kernel_rfl) (by kernel_rfl) (fun _ _ _ h => h) (Or.inl ⟨by rfl, ?_⟩) ?_
              rotate_left
              focus (intro w; go_simp; try with_reducible rfl)
              refine wpAny_take (i := 3) (v := ?_) rfl (by kernel_rfl) (by kernel_rfl) (by kernel_rfl) (fun _ _ _ h => h) (Or.inl ⟨by rfl, ?_⟩) ?_
              rotate_left
              focus (intro w; go_simp; try with_reducible rfl)
              refine wpAny_headL (n := 16) [4, 5, 6, 7, 8, 9, 10, 11, 12, 13, 14, 15] 8 (by kernel_rfl) (.cons (.next (.next (.next (.next (.here))))) (.cons (.next (.next (.next (.next (.next (.here)))))) (.cons (.next (.next (.next (.next (.next (.next (.here))))))) (.cons (.next (.next (.next (.next (.next (.next (.next (.here)))))))) (.cons (.next (.next (.next (.next (.next (.next (.next (.next (.here))))))))) (.cons (.next (.next (.next (.next (.next (.next (.next (.next (.next (.here)))))))))) (.cons (.next (.next (.next (.next (.next (.next (.next (.next (.next (.next (.here))))))))))) (.cons (.next (.next (.next (.next (.next (.next (.next (.next (.next (.next (.next (.here)))))))))))) (.cons (.next (.next (.next (.next (.next (.next (.next (.next (.next (.next (.next (.next (.here))))))))))))) (.cons (.next (.next (.next (.next (.next (.next (.next (.next (.next (.next (.next (.next (.next (.here)))))))))))))) (.cons (.next (.next (.next (.next (.next (.next (.next (.next (.next (.next (.next (.next (.next (.next (.here))))))))))))))) (.cons (.next (.next (.next (.next (.next (.next (.next (.next (.next (.next (.next (.next (.next (.next (.next (.here)))))))))))))))) (.nil))))))))))))) ?_
              repeat still_step
              refine wpStill_nil ?_
              refine wpAny_ready (rs := [16]) (by kernel_rfl) (by simp) ?_
              refine AllReady.cons rfl (fun K hK => ?_) ?_
              rotate_left
              focus (exact AllReady.nil)
              go_simp
              go_wp2_with (go_at_call 46; refine (HVC.out _ (HM.out.ext ((HS.out.ext.alloc _).drew))).mono ?_; rintro en w2 ⟨rfl, hE2⟩; have hs2 := HS.out.mono (((Ext.refl wr).alloc _).drew.trans hE2); have HS2 := Lib.hid hs2; have z1 := hs2.sets.frozen k; have z2 := hs2.fine.frozen k; have z3 := hs2.sets.cell hlt; have z4 := hs2.fine.cell hlt; have z5 := hs2.sets.lt; have z6 := hs2.fine.lt; clear hs2)
              try (refine hK _ _ ?_)
              refine wpAny_take (i := 17) (v := ?_) rfl (by kernel_rfl) (by kernel_rfl) (by kernel_rfl) (fun _ _ _ h => h) (Or.inl ⟨by rfl, ?_⟩) ?_
              rotate_left
              focus (intro w; go_simp; try with_reducible rfl)
              refine wpAny_take (i := 18) (v := ?_) rfl (by kernel_rfl) (by kernel_rfl) (by kernel_rfl) (fun _ _ _ h => h) (Or.inl ⟨by rfl, ?_⟩) ?_
              rotate_left
              focus (intro w; go_simp; try with_reducible rfl)
              refine wpAny_take (i := 19) (v := ?_) rfl (by kernel_rfl) (by kernel_rfl) (by kernel_rfl) (fun _ _ _ h => h) (Or.inl ⟨by rfl, ?_⟩) ?_
              rotate_left
              focus (intro w; go_simp; try with_reducible rfl)
              refine wpAny_take (i := 20) (v := ?_) rfl (by kernel_rfl) (by kernel_rfl) (by kernel_rfl) (fun _ _ _ h => h) (Or.inl ⟨by rfl, ?_⟩) ?_
              rotate_left
              focus (intro w; go_simp; try with_reducible rfl)
              refine wpAny_of_seqL [21, 22, 23] _ _ _ _ (.cons (.next (.next (.next (.next (.next (.next (.next (.next (.next (.next (.next (.next (.next (.next (.next (.next (.next (.next (.next (.next (.next (.here)))))))))))))))))))))) (.cons (.next (.next (.next (.next (.next (.next (.next (.next (.next (.next (.next (.next (.next (.next (.next (.next (.next (.next (.next (.next (.next (.next (.here))))))))))))))))))))))) (.cons (.next (.next (.next (.next (.next (.next (.next (.next (.next (.next (.next (.next (.next (.next (.next (.next (.next (.next (.next (.next (.next (.next (.next (.here)))))))))))))))))))))))) (.nil)))) (by kernel_rfl) ?_
              go_wp2
              go_roundw
              case rel =>
                exact ⟨k + 1, hlt, by go_num, SetsAt.put HS2.out hgne hlt HV2.out⟩
              case measure => simp [intOf]; omega
      · obtain rfl : k = f.length := by omega
        go_wp2
        go_ret2
        have hs2 := HS.out.sets
        rw [doneL_all] at hs2
        refine ⟨some ⟨g1, 0, none⟩, f.length, ?_, ?_, HE.out.trans HS.out.ext⟩
        · rw [HN.out, HR.out]; simp
        · rw [HN.out]; exact RU_of_OG hs2 hfl
  · have hN : setsOf M f = [] := if_neg h
    have HN := Lib.hid hN
    have hq : (reqErr M f != 0) = true := by simp [h]
    clear hN h
    go_enter Tryd.func34, Tryd.ntmps34
    go_wp2_with (go_at_call 45; refine H.out.mono ?_; rintro e w1 ⟨rfl, hE1⟩)
    go_ret2
    exact ⟨none, 0, by rw [HN.out]; rfl, by rw [HN.out]; exact RU.nil _ _, HE.out.trans hE1⟩
end Wt
