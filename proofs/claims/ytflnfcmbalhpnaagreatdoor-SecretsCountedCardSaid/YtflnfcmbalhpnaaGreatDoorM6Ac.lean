/- Walk: wittingref09.short (printed by gen_s9d.py). -/
import Derived.Test.YtflnfcmbalhpnaaGreatDoorM6Ab
namespace Wt
open Go Go.RowKit Go.Maps Go.Proofs Fm

structure S9 (w0 : World) (F : List Nd) (T : List Nat) (v u : Value) (wr : World) : Prop where
  e : Ext w0 wr
  o1 : wr.ownsRow w0.heap.size 73 6 v F.length (rowN F)
  o2 : wr.ownsRow w0.heap.size 3 1 u T.length ((natI T).map iv)
  ap : ∀ g, v.ownBlock = some g → u.ownBlock = some g → False
section
variable {w0 wr W1 : World} {F : List Nd} {T : List Nat} {v u : Value}
theorem S9.ext' {w' : World} (h : S9 w0 F T v u wr) (e : Ext wr w') : S9 w0 F T v u w' :=
  have hk : ∀ {T sz n : Nat} {x : Value} {xs : List Value}, wr.ownsRow w0.heap.size T sz x n xs → w'.ownsRow w0.heap.size T sz x n xs := fun {_ _ _ x _} ho => ho.kept (row := none) ⟨e.os, e.tape, e.output, e.size, fun k hk _ => e.block k hk⟩ (by cases x.ownBlock <;> simp)
  ⟨h.e.trans e, hk h.o1, hk h.o2, h.ap⟩
theorem S9.pushN (h : S9 w0 F T v u wr) {m : Nd} {g n cap H : Nat} (ho : W1.ownsRow w0.heap.size 73 6 (.slice (some ⟨g, 0, none⟩) n cap) (F.length + 1) (rowN F ++ ndCells m)) (hg : wr.grownBy W1 v.ownBlock) (hat : v.ownBlock = some g ∨ g = H) (hH : wr.heap.size ≤ H) :
    S9 w0 (F ++ [m]) T (.slice (some ⟨g, 0, none⟩) n cap) u W1 := by
  refine ⟨ext_of_grown h.e hg (fun b hb => (h.o1.lt b hb).1), ?_, h.o2.kept hg ?_, fun g' h1 h2 => ?_⟩
  · have e1 : rowN (F ++ [m]) = rowN F ++ ndCells m := by rw [rowN_append]; simp [rowN]
    rw [e1, List.length_append]; exact ho
  · cases hu : u.ownBlock with
    | none => exact .inl rfl
    | some b => exact .inr fun e => h.ap b e.symm hu
  · simp only [Value.ownBlock, Option.some.injEq] at h1
    subst h1
    rcases hat with h3 | h3
    · exact h.ap _ h3 h2
    · have := (h.o2.lt _ h2).2; omega
theorem S9.pushI (h : S9 w0 F T v u wr) {x g n cap H : Nat} (ho : W1.ownsRow w0.heap.size 3 1 (.slice (some ⟨g, 0, none⟩) n cap) (T.length + 1) ((natI T).map iv ++ [iv (x : Int)])) (hg : wr.grownBy W1 u.ownBlock) (hat : u.ownBlock = some g ∨ g = H) (hH : wr.heap.size ≤ H) :
    S9 w0 F (T ++ [x]) v (.slice (some ⟨g, 0, none⟩) n cap) W1 := by
  refine ⟨ext_of_grown h.e hg (fun b hb => (h.o2.lt b hb).1), h.o1.kept hg ?_, ?_, fun g' h1 h2 => ?_⟩
  · cases hu : v.ownBlock with
    | none => exact .inl rfl
    | some b => exact .inr fun e => h.ap b hu e.symm
  · have e1 : (natI (T ++ [x])).map iv = (natI T).map iv ++ [iv (x : Int)] := by simp [natI]
    rw [e1, List.length_append]; exact ho
  · simp only [Value.ownBlock, Option.some.injEq] at h2
    subst h2
    rcases hat with h3 | h3
    · exact h.ap _ h1 h3
    · have := (h.o1.lt _ h1).2; omega
theorem S9.ri (h : S9 w0 F T v u wr) (hl : T.length ≤ 140737488355328) : ∃ a c, u = .slice a T.length c ∧ RI wr a (natI T) := by
  have hn := natI_len T
  obtain ⟨a, c, hv, hr⟩ := RI_of_own (l := natI T) (v := u) (B := w0.heap.size) (by rw [hn]; exact h.o2) (by rw [hn]; exact hl)
  exact ⟨a, c, by rw [hv, hn], hr⟩
end
theorem shTo_len (l : List Nd) : ∀ k, (shTo l k).2.length = k ∧ (shTo l k).1.length ≤ k
  | 0 => by simp [shTo]
  | k + 1 => by
    obtain ⟨a, b⟩ := shTo_len l k
    simp only [shTo, shStep]
    split
    · simp only [List.length_append, List.length_cons, List.length_nil]; omega
    · simp only [List.length_append, List.length_cons, List.length_nil]; omega
theorem shTo_new {l : List Nd} {k : Nat} {y : Nd} (hy : reN (nth l k) (shTo l k).2 = y) (h : lastAt (shTo l k).1 y (shTo l k).1.length < 0) : shTo l (k + 1) = ((shTo l k).1 ++ [y], (shTo l k).2 ++ [(shTo l k).1.length]) := by
  simp only [shTo, shStep, hy]; rw [if_pos h]
theorem shTo_old {l : List Nd} {k a : Nat} {y : Nd} (hy : reN (nth l k) (shTo l k).2 = y) (h : lastAt (shTo l k).1 y (shTo l k).1.length = (a : Int)) : shTo l (k + 1) = ((shTo l k).1, (shTo l k).2 ++ [a]) := by
  simp only [shTo, shStep, hy]; rw [if_neg (by omega), h]; rfl
theorem lastAt_le (F : List Nd) (y : Nd) : ∀ k, -1 ≤ lastAt F y k ∧ lastAt F y k < k
  | 0 => by simp [lastAt]
  | k + 1 => by
    obtain ⟨a, b⟩ := lastAt_le F y k
    simp only [lastAt]
    split <;> omega
theorem back_of {l : List Nd} (h : backB l = true) {k : Nat} (hk : k < l.length) : ((useOf (nth l k).op).1.x = true → 0 ≤ (nth l k).x ∧ (nth l k).x < (k : Int)) ∧ ((useOf (nth l k).op).1.y = true → 0 ≤ (nth l k).y ∧ (nth l k).y < (k : Int)) := by
  have := List.all_eq_true.1 h k (List.mem_range.2 hk)
  simp only [Bool.and_eq_true, Bool.or_eq_true, Bool.not_eq_true', decide_eq_true_eq] at this
  obtain ⟨h1, h2⟩ := this
  exact ⟨fun e => h1.resolve_left (by rw [e]; decide), fun e => h2.resolve_left (by rw [e]; decide)⟩
theorem reN_00 {n : Nd} {T : List Nat} (h : (useOf n.op).1.x = false) (h2 : (useOf n.op).1.y = false) : reN n T = ⟨n.op, n.i, n.e, n.g, n.x, n.y⟩ := by unfold reN; rw [h, h2]; rfl
theorem reN_10 {n : Nd} {T : List Nat} {X : Nat} (h : (useOf n.op).1.x = true) (h2 : (useOf n.op).1.y = false) (hX : n.x = (X : Int)) : reN n T = ⟨n.op, n.i, n.e, n.g, ((nth T X : Nat) : Int), n.y⟩ := by unfold reN; rw [h, h2, hX]; rfl
theorem reN_11 {n : Nd} {T : List Nat} {X Y : Nat} (h : (useOf n.op).1.x = true) (h2 : (useOf n.op).1.y = true) (hX : n.x = (X : Int)) (hY : n.y = (Y : Int)) : reN n T = ⟨n.op, n.i, n.e, n.g, ((nth T X : Nat) : Int), ((nth T Y : Nat) : Int)⟩ := by unfold reN; rw [h, h2, hX, hY]; rfl
set_option maxRecDepth 20000 in
set_option maxHeartbeats 8000000 in
theorem r9short_any (fa : Option Addr) (fc : Nat) (l : List Nd) (w : World) (hr : RN w fa l) (hb : backB l = true) (hl : l.length ≤ 200) :
    Calls Tryz.prog 144 #[.slice fa l.length fc] w fun e w' => RetN (short9 l) e w w' := by
  have HR := Lib.hid hr
  have HB : Hid (∀ k, k < l.length → ((useOf (nth l k).op).1.x = true → 0 ≤ (nth l k).x ∧ (nth l k).x < (k : Int)) ∧ ((useOf (nth l k).op).1.y = true → 0 ≤ (nth l k).y ∧ (nth l k).y < (k : Int))) := Lib.hid fun k hk => back_of hb hk
  have HLE := Lib.hid (shTo_len l)
  have HF9 : Hid (short9 l = fCompact (shTo l l.length).1) := Lib.hid rfl
  obtain ⟨i0, hi1, hz0, hz1, hz2⟩ := info_parts node_info
  obtain ⟨j0, hj1, hy0, hy1, hy2⟩ := info_parts int_info
  have hgd := guard_node
  clear hr hb
  go_enter Tryz.func144, Tryz.ntmps144
  go_wp2
  go_loopw [3, 4, 5] (fun v u ix wr => ∃ q : Nat, q ≤ l.length ∧ ix = .int .i64 (q : Int) ∧ Hid (S9 w (shTo l q).1 (shTo l q).2 v u wr)) (fun _ _ ix _ => l.length - (intOf ix).toNat)
  case atStart => exact ⟨0, Nat.zero_le _, rfl, Lib.hid ⟨Ext.refl _, World.ownsRow_nil _ _ _ _, World.ownsRow_nil _ _ _ _, fun _ h => by cases h⟩⟩
  case round =>
    obtain ⟨q, hq, rfl, HS⟩ := hrel
    by_cases hlt : q < l.length
    · obtain ⟨ht, hf⟩ := HLE.out q
      obtain ⟨hbx, hby⟩ := HB.out q hlt
      have HOLD := Lib.hid (fun a y hy h => shTo_old (l := l) (k := q) (a := a) (y := y) hy h)
      have HNEW := Lib.hid (fun y hy h => shTo_new (l := l) (k := q) (y := y) hy h)
      obtain ⟨F, hF⟩ : ∃ F, F = (shTo l q).1 := ⟨_, rfl⟩
      obtain ⟨T, hT⟩ : ∃ T, T = (shTo l q).2 := ⟨_, rfl⟩
      rw [← hF, ← hT] at HS HOLD HNEW
      rw [← hF] at hf
      rw [← hT] at ht
      have HTL := Lib.hid ht
      have hsz0 : w.heap.size ≤ wr.heap.size := HS.out.e.size
      have HSX : Hid (∀ W2, Ext wr W2 → S9 w F T u3 u4 W2) := Lib.hid fun W2 e => HS.out.ext' e
      obtain ⟨va, vc, hve, hrf⟩ := RN_of_own HS.out.o1 (by omega)
      obtain ⟨ta, tc, hte, hrt⟩ := HS.out.ri (by omega)
      have HRF := Lib.hid hrf
      have hrt' := hrt
      subst hve
      subst hte
      obtain ⟨b, off, rfl, hbk, n0, n1, n2, n3, n4, n5⟩ := (HR.out.ext HS.out.e).get hlt
      generalize nth l q = nk at *
      clear hF hT hrf
      cases hux : (useOf nk.op).1.x
      · have huy : (useOf nk.op).1.y = false := by
          cases hy : (useOf nk.op).1.y
          · rfl
          · have := useOf_yx nk.op hy
            rw [hux] at this; cases this
        obtain ⟨nd, hnd⟩ : ∃ nd : Nd, nd = ⟨nk.op, nk.i, nk.e, nk.g, nk.x, nk.y⟩ := ⟨_, rfl⟩
        have HRE : Hid (reN nk T = nd) := Lib.hid (by rw [hnd]; exact reN_00 hux huy)
        have HND := Lib.hid hnd
        have hT200 : T.length ≤ 200 := by omega
        clear hnd ht
        go_wp2_with (first | (go_at_call 125; refine (r5X_any _ _).mono ?_; rintro _ _ ⟨rfl, rfl⟩; rw [hux]) | (go_at_call 126; refine (r5Y_any _ _).mono ?_; rintro _ _ ⟨rfl, rfl⟩; rw [huy]) | fail)
        go_loopw [7, 8] (fun a j wz => ∃ k : Nat, k ≤ F.length ∧ j = .int .i64 (k : Int) ∧ a = .int .i64 (lastAt F nd k) ∧ Hid (Ext wr wz ∧ NdAt wz wr.heap.size 0 nd)) (fun _ j _ => F.length - (intOf j).toNat)
        case atStart => exact ⟨0, Nat.zero_le _, rfl, rfl, Lib.hid ⟨((Ext.refl wr).alloc _), by rw [HND.out]; exact NdAt.new wr (⟨nk.op, nk.i, nk.e, nk.g, nk.x, nk.y⟩ : Nd) _⟩⟩
        case round =>
          rename World => wz
          obtain ⟨k, hk, rfl, rfl, HZ⟩ := hrel
          have hEz : Ext wr wz := HZ.out.1
          have HEZ := Lib.hid hEz
          have hsz1 : w.heap.size ≤ wz.heap.size := Nat.le_trans hsz0 hEz.size
          obtain ⟨p0, p1, p2, p3, p4, p5⟩ := HZ.out.2
          simp only [Nat.zero_add] at p1 p2 p3 p4 p5
          have pl := World.block_lt_of_cell? _ _ p0
          dsimp only at pl
          by_cases hlk : k < F.length
          · obtain ⟨ob, oo, rfl, hob, m0, m1, m2, m3, m4, m5⟩ := (HRF.out.ext hEz).get hlk
            have HLA : Hid (lastAt F nd (k + 1) = if nd = nth F k then (k : Int) else lastAt F nd k) := Lib.hid rfl
            by_cases hd : nd = nth F k
            · rw [if_pos hd] at HLA
              have heq : ∀ w, (binOp .eql 73 (.agg #[.int .i64 (nth F k).op, .int .i64 (nth F k).i, .int .i64 (nth F k).e, .int .i64 (nth F k).g, .int .i64 (nth F k).x, .int .i64 (nth F k).y]) (.agg #[.int .i64 nd.op, .int .i64 nd.i, .int .i64 nd.e, .int .i64 nd.g, .int .i64 nd.x, .int .i64 nd.y])).run Tryz.prog w = .ok (.bool true) w := fun w => by rw [eql_node, decide_eq_true hd.symm]
              generalize nth F k = mk at *
              clear hd
              go_wp2_with fail
              go_quiet (fail)
              go_wp2
              go_roundw
              case rel => exact ⟨k + 1, hlk, by go_num, by rw [HLA.out], Lib.hid ⟨HEZ.out.drewN _, HZ.out.2.ext ((Ext.refl wz).drewN _)⟩⟩
              case measure => simp [intOf]; omega
            · rw [if_neg hd] at HLA
              have heq : ∀ w, (binOp .eql 73 (.agg #[.int .i64 (nth F k).op, .int .i64 (nth F k).i, .int .i64 (nth F k).e, .int .i64 (nth F k).g, .int .i64 (nth F k).x, .int .i64 (nth F k).y]) (.agg #[.int .i64 nd.op, .int .i64 nd.i, .int .i64 nd.e, .int .i64 nd.g, .int .i64 nd.x, .int .i64 nd.y])).run Tryz.prog w = .ok (.bool false) w := fun w => by rw [eql_node, decide_eq_false (fun e => hd e.symm)]
              generalize nth F k = mk at *
              clear hd
              go_wp2_with fail
              go_quiet (fail)
              go_wp2
              go_roundw
              case rel => exact ⟨k + 1, hlk, by go_num, by rw [HLA.out], Lib.hid ⟨HEZ.out.drewN _, HZ.out.2.ext ((Ext.refl wz).drewN _)⟩⟩
              case measure => simp [intOf]; omega
          · obtain rfl : k = F.length := by omega
            have hle := lastAt_le F nd F.length
            have HSZ : Hid (∀ W2, Ext wz W2 → w.heap.size ≤ W2.heap.size) := fun W2 e => Nat.le_trans hsz1 e.size
            by_cases hneg : lastAt F nd F.length < 0
            · have HN := Lib.hid (HNEW.out nd HRE.out hneg)
              generalize lastAt F nd F.length = av at *
              go_wp2_with (first | (at_builtin; refine wpList_append_lies _ rfl _ _ 29 rfl w.heap.size 73 i0 _ 6 48 Tryz.underlying29 hi1 hz0 hz1 hz2 rfl (by decide) _ F.length _ rfl ((HSX.out _ (HEZ.out.alloc _)).o1) _ 1 1 (ndCells nd) rfl rfl (news_at _ nd _ _ (by simp)) (ndCells_one _) (by decide) (by unfold maxLen; omega) (by omega) (HSZ.out _ ((Ext.refl wz).alloc _)) _ rfl ?_; intro gx cap W1 hown hgrow hat hlt2; have hpush := (HSX.out _ (HEZ.out.alloc _)).pushN (m := nd) hown hgrow hat (by simp); have HPU := Lib.hid hpush; have HSZ1 : Hid (∀ W2, Ext W1 W2 → w.heap.size ≤ W2.heap.size) := Lib.hid (fun W2 e => Nat.le_trans HPU.out.e.size e.size); clear hpush hown hgrow hat) | (at_builtin; refine wpList_append_lies _ rfl _ _ 26 rfl w.heap.size 3 j0 _ 1 8 Tryz.underlying26 hj1 hy0 hy1 hy2 rfl (by decide) _ T.length _ rfl ((HPU.out.ext' ((Ext.refl W1).alloc _)).o2) _ 1 1 [.int .i64 (F.length : Int)] rfl rfl (cell_one_new _ _ _) (by simp [Value.oneCell']) (by decide) (by unfold maxLen; omega) (by omega) (HSZ1.out _ ((Ext.refl W1).alloc _)) _ rfl ?_; intro gy cap2 W3 hown hgrow hat hlt3; have hpush := (HPU.out.ext' ((Ext.refl W1).alloc _)).pushI (x := F.length) hown hgrow hat (by simp); have HPV := Lib.hid hpush; clear hpush hown hgrow hat))
              go_roundw
              case rel => exact ⟨q + 1, hlt, by go_num, by rw [HN.out]; exact HPV.out⟩
              case measure => simp [intOf]; omega
            · obtain ⟨av, hav⟩ := Int.eq_ofNat_of_zero_le (show 0 ≤ lastAt F nd F.length by omega)
              have HN := Lib.hid (HOLD.out av nd HRE.out hav)
              rw [hav] at hle hneg ⊢
              have HAV := Lib.hid hav
              clear hav
              go_wp2_with (at_builtin; refine wpList_append_lies _ rfl _ _ 26 rfl w.heap.size 3 j0 _ 1 8 Tryz.underlying26 hj1 hy0 hy1 hy2 rfl (by decide) _ T.length _ rfl ((HSX.out _ (HEZ.out.alloc _)).o2) _ 1 1 [.int .i64 (av : Int)] rfl rfl (cell_one_new _ _ _) (by simp [Value.oneCell']) (by decide) (by unfold maxLen; omega) (by omega) (HSZ.out _ ((Ext.refl wz).alloc _)) _ rfl ?_; intro gy cap2 W3 hown hgrow hat hlt3; have hpush := (HSX.out _ (HEZ.out.alloc _)).pushI (x := av) hown hgrow hat (by simp); have HPV := Lib.hid hpush; clear hpush hown hgrow hat)
              go_roundw
              case rel => exact ⟨q + 1, hlt, by go_num, by rw [HN.out]; exact HPV.out⟩
              case measure => simp [intOf]; omega
      · obtain ⟨hx0, hxl⟩ := hbx hux
        obtain ⟨X, hX⟩ := Int.eq_ofNat_of_zero_le hx0
        have hXl : X < T.length := by omega
        obtain ⟨xb, xo, hxa, hxb, hxc⟩ := hrt'.get (k := X) (by rw [natI_len]; exact hXl)
        rw [nth_natI hXl] at hxc
        rw [hX] at n4
        cases huy : (useOf nk.op).1.y
        · obtain ⟨nd, hnd⟩ : ∃ nd : Nd, nd = ⟨nk.op, nk.i, nk.e, nk.g, ((nth T X : Nat) : Int), nk.y⟩ := ⟨_, rfl⟩
          have HRE : Hid (reN nk T = nd) := Lib.hid (by rw [hnd]; exact reN_10 hux huy hX)
          have HND := Lib.hid hnd
          have hT200 : T.length ≤ 200 := by omega
          clear hnd ht
          cases hxa
          go_wp2_with (first | (go_at_call 125; refine (r5X_any _ _).mono ?_; rintro _ _ ⟨rfl, rfl⟩; rw [hux]) | (go_at_call 126; refine (r5Y_any _ _).mono ?_; rintro _ _ ⟨rfl, rfl⟩; rw [huy]) | fail)
          go_loopw [7, 8] (fun a j wz => ∃ k : Nat, k ≤ F.length ∧ j = .int .i64 (k : Int) ∧ a = .int .i64 (lastAt F nd k) ∧ Hid (Ext wr wz ∧ NdAt wz wr.heap.size 0 nd)) (fun _ j _ => F.length - (intOf j).toNat)
          case atStart => exact ⟨0, Nat.zero_le _, rfl, rfl, Lib.hid ⟨((Ext.refl wr).alloc _), by rw [HND.out]; exact NdAt.new wr (⟨nk.op, nk.i, nk.e, nk.g, ((nth T X : Nat) : Int), nk.y⟩ : Nd) _⟩⟩
          case round =>
            rename World => wz
            obtain ⟨k, hk, rfl, rfl, HZ⟩ := hrel
            have hEz : Ext wr wz := HZ.out.1
            have HEZ := Lib.hid hEz
            have hsz1 : w.heap.size ≤ wz.heap.size := Nat.le_trans hsz0 hEz.size
            obtain ⟨p0, p1, p2, p3, p4, p5⟩ := HZ.out.2
            simp only [Nat.zero_add] at p1 p2 p3 p4 p5
            have pl := World.block_lt_of_cell? _ _ p0
            dsimp only at pl
            by_cases hlk : k < F.length
            · obtain ⟨ob, oo, rfl, hob, m0, m1, m2, m3, m4, m5⟩ := (HRF.out.ext hEz).get hlk
              have HLA : Hid (lastAt F nd (k + 1) = if nd = nth F k then (k : Int) else lastAt F nd k) := Lib.hid rfl
              by_cases hd : nd = nth F k
              · rw [if_pos hd] at HLA
                have heq : ∀ w, (binOp .eql 73 (.agg #[.int .i64 (nth F k).op, .int .i64 (nth F k).i, .int .i64 (nth F k).e, .int .i64 (nth F k).g, .int .i64 (nth F k).x, .int .i64 (nth F k).y]) (.agg #[.int .i64 nd.op, .int .i64 nd.i, .int .i64 nd.e, .int .i64 nd.g, .int .i64 nd.x, .int .i64 nd.y])).run Tryz.prog w = .ok (.bool true) w := fun w => by rw [eql_node, decide_eq_true hd.symm]
                generalize nth F k = mk at *
                clear hd
                go_wp2_with fail
                go_quiet (fail)
                go_wp2
                go_roundw
                case rel => exact ⟨k + 1, hlk, by go_num, by rw [HLA.out], Lib.hid ⟨HEZ.out.drewN _, HZ.out.2.ext ((Ext.refl wz).drewN _)⟩⟩
                case measure => simp [intOf]; omega
              · rw [if_neg hd] at HLA
                have heq : ∀ w, (binOp .eql 73 (.agg #[.int .i64 (nth F k).op, .int .i64 (nth F k).i, .int .i64 (nth F k).e, .int .i64 (nth F k).g, .int .i64 (nth F k).x, .int .i64 (nth F k).y]) (.agg #[.int .i64 nd.op, .int .i64 nd.i, .int .i64 nd.e, .int .i64 nd.g, .int .i64 nd.x, .int .i64 nd.y])).run Tryz.prog w = .ok (.bool false) w := fun w => by rw [eql_node, decide_eq_false (fun e => hd e.symm)]
                generalize nth F k = mk at *
                clear hd
                go_wp2_with fail
                go_quiet (fail)
                go_wp2
                go_roundw
                case rel => exact ⟨k + 1, hlk, by go_num, by rw [HLA.out], Lib.hid ⟨HEZ.out.drewN _, HZ.out.2.ext ((Ext.refl wz).drewN _)⟩⟩
                case measure => simp [intOf]; omega
            · obtain rfl : k = F.length := by omega
              have hle := lastAt_le F nd F.length
              have HSZ : Hid (∀ W2, Ext wz W2 → w.heap.size ≤ W2.heap.size) := fun W2 e => Nat.le_trans hsz1 e.size
              by_cases hneg : lastAt F nd F.length < 0
              · have HN := Lib.hid (HNEW.out nd HRE.out hneg)
                generalize lastAt F nd F.length = av at *
                go_wp2_with (first | (at_builtin; refine wpList_append_lies _ rfl _ _ 29 rfl w.heap.size 73 i0 _ 6 48 Tryz.underlying29 hi1 hz0 hz1 hz2 rfl (by decide) _ F.length _ rfl ((HSX.out _ (HEZ.out.alloc _)).o1) _ 1 1 (ndCells nd) rfl rfl (news_at _ nd _ _ (by simp)) (ndCells_one _) (by decide) (by unfold maxLen; omega) (by omega) (HSZ.out _ ((Ext.refl wz).alloc _)) _ rfl ?_; intro gx cap W1 hown hgrow hat hlt2; have hpush := (HSX.out _ (HEZ.out.alloc _)).pushN (m := nd) hown hgrow hat (by simp); have HPU := Lib.hid hpush; have HSZ1 : Hid (∀ W2, Ext W1 W2 → w.heap.size ≤ W2.heap.size) := Lib.hid (fun W2 e => Nat.le_trans HPU.out.e.size e.size); clear hpush hown hgrow hat) | (at_builtin; refine wpList_append_lies _ rfl _ _ 26 rfl w.heap.size 3 j0 _ 1 8 Tryz.underlying26 hj1 hy0 hy1 hy2 rfl (by decide) _ T.length _ rfl ((HPU.out.ext' ((Ext.refl W1).alloc _)).o2) _ 1 1 [.int .i64 (F.length : Int)] rfl rfl (cell_one_new _ _ _) (by simp [Value.oneCell']) (by decide) (by unfold maxLen; omega) (by omega) (HSZ1.out _ ((Ext.refl W1).alloc _)) _ rfl ?_; intro gy cap2 W3 hown hgrow hat hlt3; have hpush := (HPU.out.ext' ((Ext.refl W1).alloc _)).pushI (x := F.length) hown hgrow hat (by simp); have HPV := Lib.hid hpush; clear hpush hown hgrow hat))
                go_roundw
                case rel => exact ⟨q + 1, hlt, by go_num, by rw [HN.out]; exact HPV.out⟩
                case measure => simp [intOf]; omega
              · obtain ⟨av, hav⟩ := Int.eq_ofNat_of_zero_le (show 0 ≤ lastAt F nd F.length by omega)
                have HN := Lib.hid (HOLD.out av nd HRE.out hav)
                rw [hav] at hle hneg ⊢
                have HAV := Lib.hid hav
                clear hav
                go_wp2_with (at_builtin; refine wpList_append_lies _ rfl _ _ 26 rfl w.heap.size 3 j0 _ 1 8 Tryz.underlying26 hj1 hy0 hy1 hy2 rfl (by decide) _ T.length _ rfl ((HSX.out _ (HEZ.out.alloc _)).o2) _ 1 1 [.int .i64 (av : Int)] rfl rfl (cell_one_new _ _ _) (by simp [Value.oneCell']) (by decide) (by unfold maxLen; omega) (by omega) (HSZ.out _ ((Ext.refl wz).alloc _)) _ rfl ?_; intro gy cap2 W3 hown hgrow hat hlt3; have hpush := (HSX.out _ (HEZ.out.alloc _)).pushI (x := av) hown hgrow hat (by simp); have HPV := Lib.hid hpush; clear hpush hown hgrow hat)
                go_roundw
                case rel => exact ⟨q + 1, hlt, by go_num, by rw [HN.out]; exact HPV.out⟩
                case measure => simp [intOf]; omega
        · obtain ⟨hy0', hyl⟩ := hby huy
          obtain ⟨Y, hY⟩ := Int.eq_ofNat_of_zero_le hy0'
          have hYl : Y < T.length := by omega
          obtain ⟨yb, yo, hya, hyb, hyc⟩ := hrt'.get (k := Y) (by rw [natI_len]; exact hYl)
          rw [nth_natI hYl] at hyc
          rw [hY] at n5
          obtain ⟨nd, hnd⟩ : ∃ nd : Nd, nd = ⟨nk.op, nk.i, nk.e, nk.g, ((nth T X : Nat) : Int), ((nth T Y : Nat) : Int)⟩ := ⟨_, rfl⟩
          have HRE : Hid (reN nk T = nd) := Lib.hid (by rw [hnd]; exact reN_11 hux huy hX hY)
          have HND := Lib.hid hnd
          have hT200 : T.length ≤ 200 := by omega
          clear hnd ht
          cases hxa
          cases hya
          go_wp2_with (first | (go_at_call 125; refine (r5X_any _ _).mono ?_; rintro _ _ ⟨rfl, rfl⟩; rw [hux]) | (go_at_call 126; refine (r5Y_any _ _).mono ?_; rintro _ _ ⟨rfl, rfl⟩; rw [huy]) | fail)
          go_loopw [7, 8] (fun a j wz => ∃ k : Nat, k ≤ F.length ∧ j = .int .i64 (k : Int) ∧ a = .int .i64 (lastAt F nd k) ∧ Hid (Ext wr wz ∧ NdAt wz wr.heap.size 0 nd)) (fun _ j _ => F.length - (intOf j).toNat)
          case atStart => exact ⟨0, Nat.zero_le _, rfl, rfl, Lib.hid ⟨((Ext.refl wr).alloc _), by rw [HND.out]; exact NdAt.new wr (⟨nk.op, nk.i, nk.e, nk.g, ((nth T X : Nat) : Int), ((nth T Y : Nat) : Int)⟩ : Nd) _⟩⟩
          case round =>
            rename World => wz
            obtain ⟨k, hk, rfl, rfl, HZ⟩ := hrel
            have hEz : Ext wr wz := HZ.out.1
            have HEZ := Lib.hid hEz
            have hsz1 : w.heap.size ≤ wz.heap.size := Nat.le_trans hsz0 hEz.size
            obtain ⟨p0, p1, p2, p3, p4, p5⟩ := HZ.out.2
            simp only [Nat.zero_add] at p1 p2 p3 p4 p5
            have pl := World.block_lt_of_cell? _ _ p0
            dsimp only at pl
            by_cases hlk : k < F.length
            · obtain ⟨ob, oo, rfl, hob, m0, m1, m2, m3, m4, m5⟩ := (HRF.out.ext hEz).get hlk
              have HLA : Hid (lastAt F nd (k + 1) = if nd = nth F k then (k : Int) else lastAt F nd k) := Lib.hid rfl
              by_cases hd : nd = nth F k
              · rw [if_pos hd] at HLA
                have heq : ∀ w, (binOp .eql 73 (.agg #[.int .i64 (nth F k).op, .int .i64 (nth F k).i, .int .i64 (nth F k).e, .int .i64 (nth F k).g, .int .i64 (nth F k).x, .int .i64 (nth F k).y]) (.agg #[.int .i64 nd.op, .int .i64 nd.i, .int .i64 nd.e, .int .i64 nd.g, .int .i64 nd.x, .int .i64 nd.y])).run Tryz.prog w = .ok (.bool true) w := fun w => by rw [eql_node, decide_eq_true hd.symm]
                generalize nth F k = mk at *
                clear hd
                go_wp2_with fail
                go_quiet (fail)
                go_wp2
                go_roundw
                case rel => exact ⟨k + 1, hlk, by go_num, by rw [HLA.out], Lib.hid ⟨HEZ.out.drewN _, HZ.out.2.ext ((Ext.refl wz).drewN _)⟩⟩
                case measure => simp [intOf]; omega
              · rw [if_neg hd] at HLA
                have heq : ∀ w, (binOp .eql 73 (.agg #[.int .i64 (nth F k).op, .int .i64 (nth F k).i, .int .i64 (nth F k).e, .int .i64 (nth F k).g, .int .i64 (nth F k).x, .int .i64 (nth F k).y]) (.agg #[.int .i64 nd.op, .int .i64 nd.i, .int .i64 nd.e, .int .i64 nd.g, .int .i64 nd.x, .int .i64 nd.y])).run Tryz.prog w = .ok (.bool false) w := fun w => by rw [eql_node, decide_eq_false (fun e => hd e.symm)]
                generalize nth F k = mk at *
                clear hd
                go_wp2_with fail
                go_quiet (fail)
                go_wp2
                go_roundw
                case rel => exact ⟨k + 1, hlk, by go_num, by rw [HLA.out], Lib.hid ⟨HEZ.out.drewN _, HZ.out.2.ext ((Ext.refl wz).drewN _)⟩⟩
                case measure => simp [intOf]; omega
            · obtain rfl : k = F.length := by omega
              have hle := lastAt_le F nd F.length
              have HSZ : Hid (∀ W2, Ext wz W2 → w.heap.size ≤ W2.heap.size) := fun W2 e => Nat.le_trans hsz1 e.size
              by_cases hneg : lastAt F nd F.length < 0
              · have HN := Lib.hid (HNEW.out nd HRE.out hneg)
                generalize lastAt F nd F.length = av at *
                go_wp2_with (first | (at_builtin; refine wpList_append_lies _ rfl _ _ 29 rfl w.heap.size 73 i0 _ 6 48 Tryz.underlying29 hi1 hz0 hz1 hz2 rfl (by decide) _ F.length _ rfl ((HSX.out _ (HEZ.out.alloc _)).o1) _ 1 1 (ndCells nd) rfl rfl (news_at _ nd _ _ (by simp)) (ndCells_one _) (by decide) (by unfold maxLen; omega) (by omega) (HSZ.out _ ((Ext.refl wz).alloc _)) _ rfl ?_; intro gx cap W1 hown hgrow hat hlt2; have hpush := (HSX.out _ (HEZ.out.alloc _)).pushN (m := nd) hown hgrow hat (by simp); have HPU := Lib.hid hpush; have HSZ1 : Hid (∀ W2, Ext W1 W2 → w.heap.size ≤ W2.heap.size) := Lib.hid (fun W2 e => Nat.le_trans HPU.out.e.size e.size); clear hpush hown hgrow hat) | (at_builtin; refine wpList_append_lies _ rfl _ _ 26 rfl w.heap.size 3 j0 _ 1 8 Tryz.underlying26 hj1 hy0 hy1 hy2 rfl (by decide) _ T.length _ rfl ((HPU.out.ext' ((Ext.refl W1).alloc _)).o2) _ 1 1 [.int .i64 (F.length : Int)] rfl rfl (cell_one_new _ _ _) (by simp [Value.oneCell']) (by decide) (by unfold maxLen; omega) (by omega) (HSZ1.out _ ((Ext.refl W1).alloc _)) _ rfl ?_; intro gy cap2 W3 hown hgrow hat hlt3; have hpush := (HPU.out.ext' ((Ext.refl W1).alloc _)).pushI (x := F.length) hown hgrow hat (by simp); have HPV := Lib.hid hpush; clear hpush hown hgrow hat))
                go_roundw
                case rel => exact ⟨q + 1, hlt, by go_num, by rw [HN.out]; exact HPV.out⟩
                case measure => simp [intOf]; omega
              · obtain ⟨av, hav⟩ := Int.eq_ofNat_of_zero_le (show 0 ≤ lastAt F nd F.length by omega)
                have HN := Lib.hid (HOLD.out av nd HRE.out hav)
                rw [hav] at hle hneg ⊢
                have HAV := Lib.hid hav
                clear hav
                go_wp2_with (at_builtin; refine wpList_append_lies _ rfl _ _ 26 rfl w.heap.size 3 j0 _ 1 8 Tryz.underlying26 hj1 hy0 hy1 hy2 rfl (by decide) _ T.length _ rfl ((HSX.out _ (HEZ.out.alloc _)).o2) _ 1 1 [.int .i64 (av : Int)] rfl rfl (cell_one_new _ _ _) (by simp [Value.oneCell']) (by decide) (by unfold maxLen; omega) (by omega) (HSZ.out _ ((Ext.refl wz).alloc _)) _ rfl ?_; intro gy cap2 W3 hown hgrow hat hlt3; have hpush := (HSX.out _ (HEZ.out.alloc _)).pushI (x := av) hown hgrow hat (by simp); have HPV := Lib.hid hpush; clear hpush hown hgrow hat)
                go_roundw
                case rel => exact ⟨q + 1, hlt, by go_num, by rw [HN.out]; exact HPV.out⟩
                case measure => simp [intOf]; omega
    · obtain rfl : q = l.length := by omega
      obtain ⟨ht, hf⟩ := HLE.out l.length
      obtain ⟨va, vc, hve, hrf⟩ := RN_of_own HS.out.o1 (by omega)
      have HRF := Lib.hid hrf
      have HSE := Lib.hid HS.out.e
      generalize (shTo l l.length).1 = F at *
      subst hve
      clear hrf HS
      go_wp2_with (go_at_call 114; refine (r5Compact_any va vc F _ HRF.out).mono ?_; rintro _ w2 ⟨a2, c2, rfl, h2, hE2⟩)
      go_ret
      rw [HF9.out]
      exact ⟨a2, c2, rfl, h2, HSE.out.trans hE2⟩
end Wt

namespace Wt
open Go Go.RowKit Go.Maps Go.Proofs Fm

set_option maxHeartbeats 1000000 in
theorem r9from_any (t : BitVec 64) (n : Nat) (hn : n ≤ 4) (ht : t >>> (2 ^ n) = 0#64) (hb : backB (fmL n t []).1 = true) (w : World) :
    Calls Tryz.prog 108 #[.int .u64 (un t), .int .i64 (n : Int)] w fun e w' => RetNe (fromF t n) 0 e w w' := by
  have hp : 2 ^ n ≤ 16 := pow16 hn
  have hle := (fmL_le n t []).2
  simp only [List.length_nil] at hle
  have HRQ := Lib.hid (r9request_any t n hn ht)
  have HFM := Lib.hid (fm_any n (by omega) t [] (.slice none 0 0) w w ⟨Ext.refl _, World.ownsRow_nil _ _ _ _⟩ (by simp; omega))
  have HFF : Hid (fromF t n = short9 (fmL n t []).1) := Lib.hid rfl
  rw [HFF.out]
  generalize fmL n t [] = P at *
  obtain ⟨l, x⟩ := P
  dsimp only at *
  have hl : l.length ≤ 200 := by omega
  have HSH := Lib.hid (fun fa fc w h => r9short_any fa fc l w h hb hl)
  clear ht hb hp hle HFF
  go_enter Tryz.func108, Tryz.ntmps108
  go_wp2_with (go_at_call 142; refine (HRQ.out _).mono ?_; rintro _ _ ⟨rfl, rfl⟩)
  refine (HFM.out).mono ?_
  rintro _ w1 ⟨v1, rfl, hv1⟩
  obtain ⟨va, vc, hve, hrn⟩ := RN_of_own hv1.own (by omega)
  subst hve
  have HRN := Lib.hid hrn
  have HE1 := Lib.hid hv1.e
  clear hrn hv1
  dsimp only
  go_wp2_with (go_at_call 144; refine (HSH.out _ _ _ HRN.out).mono ?_; rintro _ w2 ⟨a2, c2, rfl, h2, hE2⟩)
  go_ret2
  exact ⟨a2, c2, rfl, h2, HE1.out.trans hE2⟩
end Wt

namespace Wt
open Go Go.RowKit Go.Maps Go.Proofs Fm

def selP (lo hi v : Nat) : Bool := decide (lo ≤ onesN v) && decide (onesN v ≤ hi)
theorem btw_sel (lo hi v : Nat) : btw (onesN v : Int) (lo : Int) (hi : Int) = selP lo hi v := by
  unfold btw selP; congr 1 <;> exact decide_eq_decide.2 (by omega)
set_option maxHeartbeats 2000000 in
theorem r44counts_any (n lo hi : Nat) (hn : n ≤ 4) (ht : tallyT n lo hi >>> (2 ^ n) = 0#64) (hb : backB (fmL n (tallyT n lo hi) []).1 = true) (w : World) :
    Calls Tryz.prog 77 #[.int .i64 (n : Int), .int .i64 (lo : Int), .int .i64 (hi : Int)] w fun e w' => RetNe (fromF (tallyT n lo hi) n) 0 e w w' := by
  have HT := Lib.hid (r9from_any (tallyT n lo hi) n hn ht hb)
  have HON : Hid (∀ v : Nat, v < 16 → ∀ w, Calls Tryz.prog 71 #[.int .i64 (v : Int)] w fun e w' => e = .returned (.int .i64 (onesN v : Int)) ∧ w = w') := Lib.hid fun v hv w => r44ones_any v hv w
  have HIN : Hid (∀ (v : Nat) (w : World), Calls Tryz.prog 54 #[.int .i64 (onesN v : Int), .int .i64 (lo : Int), .int .i64 (hi : Int)] w fun e w' => e = .returned (.bool (selP lo hi v)) ∧ w = w') := Lib.hid fun v w => by rw [← btw_sel]; exact r44in_any _ _ _ w
  have h63 : n < 63 := by omega
  have hpw : 2 ^ n ≤ 16 := pow16 hn
  have HA : Hid (tallyT n lo hi = setTo (selP lo hi) (2 ^ n)) := Lib.hid rfl
  generalize hp : selP lo hi = p at *
  generalize hfr : fromF (tallyT n lo hi) n = FR at *
  rw [HA.out] at HT
  clear hp hfr ht hb HA
  go_enter Tryz.func77, Tryz.ntmps77
  go_wp2
  go_loopw [8, 9] (fun s i wr => ∃ k : Nat, k ≤ 2 ^ n ∧ i = .int .i64 (k : Int) ∧ s = .int .u64 (un (setTo p k)) ∧ w = wr) (fun _ i _ => 2 ^ n - (intOf i).toNat)
  case atStart => exact ⟨0, Nat.zero_le _, rfl, rfl, rfl⟩
  case round =>
    obtain ⟨k, hk, rfl, rfl, rfl⟩ := hrel
    have hk64 : k ≤ 64 := by omega
    by_cases hlt : k < 2 ^ n
    · have hd1 : decide ((k : Int) < p2 n) = true := decide_eq_true (by unfold p2; omega)
      have HST : Hid (setTo p (k + 1) = if p k then setTo p k ||| 1#64 <<< k else setTo p k) := Lib.hid rfl
      have HO := Lib.hid (HON.out k (by omega) w)
      have HI := Lib.hid (HIN.out k w)
      generalize onesN k = ok at *
      cases hb : p k
      · have HS : Hid (setTo p (k + 1) = setTo p k) := Lib.hid (by rw [HST.out, hb]; simp)
        rw [hb] at HI
        clear HST hb
        go_wp2_with (first | (go_at_call 71; refine HO.out.mono ?_; rintro _ _ ⟨rfl, rfl⟩) | (go_at_call 54; refine HI.out.mono ?_; rintro _ _ ⟨rfl, rfl⟩) | fail)
        go_roundw
        case rel => exact ⟨k + 1, hlt, by go_num, by rw [HS.out], trivial⟩
        case measure => simp [intOf]; omega
      · have HS : Hid (setTo p (k + 1) = setTo p k ||| 1#64 <<< k) := Lib.hid (by rw [HST.out, hb]; simp)
        rw [hb] at HI
        clear HST hb
        go_wp2_with (first | (go_at_call 71; refine HO.out.mono ?_; rintro _ _ ⟨rfl, rfl⟩) | (go_at_call 54; refine HI.out.mono ?_; rintro _ _ ⟨rfl, rfl⟩) | fail)
        go_roundw
        case rel => exact ⟨k + 1, hlt, by go_num, by rw [HS.out], trivial⟩
        case measure => simp [intOf]; omega
    · have hd1 : decide ((k : Int) < p2 n) = false := decide_eq_false (by unfold p2; omega)
      have hkk : 2 ^ n = k := by omega
      rw [hkk] at HT
      clear hkk hpw
      go_wp2_with (go_at_call 108; refine (HT.out _).mono ?_; rintro _ w6 ⟨a6, c6, rfl, h6, hE6⟩)
      go_ret2
      exact ⟨a6, c6, rfl, h6, hE6⟩
theorem setTo_hi (p : Nat → Bool) (n : Nat) : setTo p (2 ^ n) >>> (2 ^ n) = 0#64 := by
  refine BitVec.eq_of_getLsbD_eq fun i hi => ?_
  rw [BitVec.getLsbD_ushiftRight]
  by_cases h : 2 ^ n + i < 64
  · have := bt_setTo p h (2 ^ n)
    unfold bt at this
    rw [this, decide_eq_false (by omega)]; simp
  · rw [BitVec.getLsbD_of_ge _ _ (by omega)]; simp
theorem tbl_back {n lo hi : Nat} (h : tblOk n lo hi = true) : backB (fmL n (tallyT n lo hi) []).1 = true := by
  unfold tblOk at h
  simp only [Bool.and_eq_true] at h
  exact h.1.1.1
set_option maxHeartbeats 1000000 in
theorem r44tally_any (n k : Nat) (hn : 2 ≤ n ∧ n ≤ 4) (hk : k ≤ n) (w : World) :
    Calls Tryz.prog 43 #[.int .i64 (n : Int), .int .i64 (k : Int)] w fun e w' => RetNe (fromF (tallyT n k k) n) 0 e w w' := by
  have HC := Lib.hid (r44counts_any n k k hn.2 (setTo_hi _ _) (tbl_back (tbl_ok hn hk).1))
  have hb1 : btw (n : Int) 2 4 = true := btw_yes (by omega)
  have hb2 : btw (k : Int) 0 (n : Int) = true := btw_yes (by omega)
  generalize fromF (tallyT n k k) n = FR at *
  go_enter Tryz.func43, Tryz.ntmps43
  go_wp2_with (first | (go_at_call 54; refine (r44in_any _ _ _ _).mono ?_; rintro _ _ ⟨rfl, rfl⟩) | fail)
  refine (HC.out _).mono ?_
  rintro _ w2 ⟨a2, c2, rfl, h2, hE2⟩
  dsimp only
  go_wp2_with fail
  go_ret2
  exact ⟨a2, c2, rfl, h2, hE2⟩
set_option maxHeartbeats 1000000 in
theorem r44passes_any (n k : Nat) (hn : 2 ≤ n ∧ n ≤ 4) (hk : k ≤ n) (w : World) :
    Calls Tryz.prog 45 #[.int .i64 (n : Int), .int .i64 (k : Int)] w fun e w' => RetNe (fromF (tallyT n k n) n) 0 e w w' := by
  have HC := Lib.hid (r44counts_any n k n hn.2 (setTo_hi _ _) (tbl_back (tbl_ok hn hk).2.1))
  have hb1 : btw (n : Int) 2 4 = true := btw_yes (by omega)
  have hb2 : btw (k : Int) 0 (n : Int) = true := btw_yes (by omega)
  generalize fromF (tallyT n k n) n = FR at *
  go_enter Tryz.func45, Tryz.ntmps45
  go_wp2_with (first | (go_at_call 54; refine (r44in_any _ _ _ _).mono ?_; rintro _ _ ⟨rfl, rfl⟩) | fail)
  refine (HC.out _).mono ?_
  rintro _ w2 ⟨a2, c2, rfl, h2, hE2⟩
  dsimp only
  go_wp2_with fail
  go_ret2
  exact ⟨a2, c2, rfl, h2, hE2⟩
end Wt
