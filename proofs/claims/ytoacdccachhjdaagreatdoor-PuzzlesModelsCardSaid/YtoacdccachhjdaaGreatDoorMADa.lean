/- Walks: wittingref32.equivalence, valuations. -/
import Derived.Test.YtoacdccachhjdaaGreatDoorMACf
import Derived.Test.YtoacdccachhjdaaGreatDoorMACi
namespace Wt
open Go Go.RowKit Go.Maps Go.Proofs Fm

/-- A list of sets that the call has made. -/
def RetY (l : List (BitVec 64)) (e : Ending) (w w' : World) : Prop := ∃ a c, e = .returned (.slice a l.length c) ∧ OU w' w.heap.size (.slice a l.length c) l ∧ Ext w w'
theorem GL.yu {w0 wr : World} {l : List (BitVec 64)} {v : Value} (h : GL w0 63 uv l v wr) (hl : l.length ≤ 1000) : ∃ a c, v = .slice a l.length c ∧ OU wr w0.heap.size (.slice a l.length c) l := by
  have ho : OU wr w0.heap.size v l := h.own
  obtain ⟨a, c, rfl, -⟩ := RU_of_OU ho (by omega)
  exact ⟨a, c, rfl, ho⟩
theorem bldRow_len (n : Nat) (key : Nat → Int) : (bldRow n key).length = n := by simp [bldRow]
theorem bldRow_take (n : Nat) (key : Nat → Int) {k : Nat} (h : k < n) : (bldRow n key).take (k + 1) = (bldRow n key).take k ++ [bldR n key k] := by
  rw [take_nthZ (by rw [bldRow_len]; exact h)]
  unfold bldRow
  rw [nth_mapX _ h]
def bldVs (ws : List Nat) (n : Nat) : List (BitVec 64) := (List.range n).map fun p => bldV ws p
theorem bldVs_len (ws : List Nat) (n : Nat) : (bldVs ws n).length = n := by simp [bldVs]
theorem bldVs_take (ws : List Nat) (n : Nat) {k : Nat} (h : k < n) : (bldVs ws n).take (k + 1) = (bldVs ws n).take k ++ [bldV ws k] := by
  rw [take_nthZ (by rw [bldVs_len]; exact h)]
  unfold bldVs
  rw [nth_mapX _ h]
set_option maxRecDepth 20000 in
set_option maxHeartbeats 4000000 in
theorem r32eqv_any (ks : List Int) (ka : Option Addr) (kc : Nat) (w : World) (hk : RI w ka ks) (h64 : ks.length ≤ 64) :
    Calls Tryz.prog 56 #[.slice ka ks.length kc] w fun e w' => RetY (bldRow ks.length (nth ks)) e w w' := by
  have HK := Lib.hid hk
  have hln := hk.len
  obtain ⟨N, hN⟩ : ∃ N, N = ks.length := ⟨_, rfl⟩
  rw [← hN] at h64 hln ⊢
  have HN := Lib.hid hN
  obtain ⟨i0, hi1, hz0, hz1, hz2⟩ := info_parts u64_info
  clear hk hN
  go_enter Tryz.func56, Tryz.ntmps56
  go_wp2_with fail
  go_loopw [3, 4] (fun v i wr => ∃ k : Nat, k ≤ N ∧ i = .int .i64 (k : Int) ∧ Hid (GL w 63 uv ((bldRow N (nth ks)).take k) v wr)) (fun _ i _ => N - (RowKit.intOf i).toNat)
  case atStart => exact ⟨0, Nat.zero_le _, rfl, Lib.hid ⟨Ext.refl _, by rw [List.take_zero]; exact World.ownsRow_nil _ _ _ _⟩⟩
  case round =>
    obtain ⟨k, hkk, rfl, HG⟩ := hrel
    by_cases hkN : k < N
    · obtain ⟨P, hP⟩ : ∃ P : Nat → Bool, P = fun j => nth ks k == nth ks j := ⟨_, rfl⟩
      have HPJ : Hid (∀ j, P j = (nth ks k == nth ks j)) := Lib.hid fun j => by rw [hP]
      have HTK : Hid ((bldRow N (nth ks)).take (k + 1) = (bldRow N (nth ks)).take k ++ [setTo P N]) := Lib.hid (by rw [bldRow_take _ _ hkN, hP]; rfl)
      have HLK : Hid (((bldRow N (nth ks)).take k).length = k) := Lib.hid (by rw [List.length_take, bldRow_len]; omega)
      clear hP
      go_wp2_with fail
      go_loopw [5, 6] (fun t i wz => ∃ j : Nat, j ≤ N ∧ i = .int .i64 (j : Int) ∧ t = .int .u64 (un (setTo P j)) ∧ Hid (Ext wr wz)) (fun _ i _ => N - (RowKit.intOf i).toNat)
      case atStart => exact ⟨0, Nat.zero_le _, rfl, rfl, Lib.hid (Ext.refl _)⟩
      case round =>
        rename World => wz
        obtain ⟨j, hj, rfl, rfl, HEZ⟩ := hrel
        by_cases hjN : j < N
        · have hj64 : j < 64 := by omega
          have HST : Hid (setTo P (j + 1) = if P j = true then setTo P j ||| 1#64 <<< j else setTo P j) := Lib.hid rfl
          obtain ⟨b1, o1, rfl, hb1, hc1⟩ := (HK.out.ext (HG.out.e.trans HEZ.out)).get (k := j) (by rw [← HN.out]; exact hjN)
          obtain ⟨b2, o2, he, hb2, hc2⟩ := (HK.out.ext (HG.out.e.trans HEZ.out)).get (k := k) (by rw [← HN.out]; exact hkN)
          cases he
          have HPj := Lib.hid (HPJ.out j)
          clear HTK HPJ
          generalize nth ks j = x at *
          generalize nth ks k = y at *
          obtain ⟨bb, hbb⟩ : ∃ bb, (x == y) = bb := ⟨_, rfl⟩
          have HQ : Hid (P j = bb) := Lib.hid (by rw [HPj.out, ← hbb]; exact Bool.eq_iff_iff.2 (by simp only [beq_iff_eq]; exact eq_comm))
          clear HPj
          cases bb
          · go_wp2_with fail
            go_quiet (fail)
            go_wp2_with fail
            go_roundw
            case rel => exact ⟨j + 1, hjN, by go_num, by rw [HST.out, HQ.out]; rfl, Lib.hid (HEZ.out.drewN _)⟩
            case measure => simp [RowKit.intOf]; omega
          · go_wp2_with fail
            go_quiet (fail)
            go_wp2_with fail
            go_roundw
            case rel => exact ⟨j + 1, hjN, by go_num, by rw [HST.out, HQ.out]; rfl, Lib.hid (HEZ.out.drewN _)⟩
            case measure => simp [RowKit.intOf]; omega
        · obtain rfl : N = j := by omega
          have HGZ := Lib.hid (HG.out.ext' HEZ.out)
          have HO : Hid (∀ o, (wz.alloc o).ownsRow w.heap.size 63 1 u3 ((bldRow N (nth ks)).take k).length (((bldRow N (nth ks)).take k).map uv)) := Lib.hid fun o => (HGZ.out.ext' ((Ext.refl wz).alloc o)).own
          have HPA : Hid (∀ o, GL w 63 uv ((bldRow N (nth ks)).take k) u3 (wz.alloc o)) := Lib.hid fun o => HGZ.out.ext' ((Ext.refl wz).alloc o)
          have hsz1 : w.heap.size ≤ wz.heap.size := HGZ.out.e.size
          have hF := HLK.out
          generalize (bldRow N (nth ks)).take k = F at *
          generalize setTo P N = S at *
          have HONE : Hid (∀ u ∈ [Value.int .u64 (un S)], u.oneCell' = true) := Lib.hid (by simp [Value.oneCell'])
          go_wp2_with (at_builtin; refine wpList_append_lies _ rfl _ _ 25 rfl w.heap.size 63 i0 _ 1 8 Tryz.underlying25 hi1 hz0 hz1 hz2 rfl (by decide) u3 F.length _ rfl (HO.out _) ⟨wz.heap.size, 0, none⟩ 1 1 [.int .u64 (un S)] rfl rfl (cell_one_new _ _ _) HONE.out (by decide) (by unfold maxLen; omega) (by omega) (Nat.le_trans hsz1 (by simp)) (wz.heap.size + 1) (by simp) ?_; intro gx cap W1 hown hgrow hat hlt2; have hpush := (HPA.out _).push (x := S) hown hgrow; have HPU := Lib.hid hpush; clear hpush hown hgrow hat)
          go_roundw
          case rel => exact ⟨k + 1, hkN, by go_num, Lib.hid (by have h := HPU.out; rw [hF] at h; rw [HTK.out]; exact h)⟩
          case measure => simp [RowKit.intOf]; omega
    · obtain rfl : N = k := by omega
      have hg := HG.out
      rw [List.take_of_length_le (by rw [bldRow_len]; exact Nat.le_refl _)] at hg
      obtain ⟨a, c, rfl, ho⟩ := hg.yu (by rw [bldRow_len]; omega)
      have HO := Lib.hid ho
      have HX := Lib.hid hg.e
      clear hg ho
      go_wp2_with fail
      go_ret
      exact ⟨a, c, rfl, HO.out, HX.out⟩
set_option maxRecDepth 20000 in
set_option maxHeartbeats 4000000 in
theorem r32val_any (ms : List Nat) (ka : Option Addr) (kc n : Nat) (w : World) (hk : RI w ka (natI ms)) (h64 : ms.length ≤ 64) (hn : n ≤ 8) (hb : ∀ k, k < ms.length → nth ms k < 65536) :
    Calls Tryz.prog 55 #[.slice ka ms.length kc, .int .i64 (n : Int)] w fun e w' => RetY (bldVs ms n) e w w' := by
  have HK := Lib.hid hk
  have HBD := Lib.hid hb
  have hnl : (natI ms).length = ms.length := by simp [natI]
  obtain ⟨N, hN⟩ : ∃ N, N = ms.length := ⟨_, rfl⟩
  rw [← hN] at h64 ⊢
  have HN := Lib.hid hN
  have HNL := Lib.hid hnl
  obtain ⟨i0, hi1, hz0, hz1, hz2⟩ := info_parts u64_info
  clear hk hN hb hnl
  go_enter Tryz.func55, Tryz.ntmps55
  go_wp2_with fail
  go_loopw [5, 6] (fun v i wr => ∃ k : Nat, k ≤ n ∧ i = .int .i64 (k : Int) ∧ Hid (GL w 63 uv ((bldVs ms n).take k) v wr)) (fun _ i _ => n - (RowKit.intOf i).toNat)
  case atStart => exact ⟨0, Nat.zero_le _, rfl, Lib.hid ⟨Ext.refl _, by rw [List.take_zero]; exact World.ownsRow_nil _ _ _ _⟩⟩
  case round =>
    obtain ⟨k, hkk, rfl, HG⟩ := hrel
    by_cases hkN : k < n
    · obtain ⟨P, hP⟩ : ∃ P : Nat → Bool, P = fun j => (nth ms j).testBit k := ⟨_, rfl⟩
      have HPJ : Hid (∀ j, P j = (nth ms j).testBit k) := Lib.hid fun j => by rw [hP]
      have HTK : Hid ((bldVs ms n).take (k + 1) = (bldVs ms n).take k ++ [setTo P N]) := Lib.hid (by rw [bldVs_take _ _ hkN, hP, HN.out]; rfl)
      have HLK : Hid (((bldVs ms n).take k).length = k) := Lib.hid (by rw [List.length_take, bldVs_len]; omega)
      have hk64 : k < 64 := by omega
      clear hP
      go_wp2_with fail
      go_loop [7, 8] (fun t i => ∃ j : Nat, j ≤ N ∧ i = .int .i64 (j : Int) ∧ t = .int .u64 (un (setTo P j))) (fun _ i => N - (RowKit.intOf i).toNat)
      case atStart => exact ⟨0, Nat.zero_le _, rfl, rfl⟩
      case round =>
        obtain ⟨j, hj, rfl, rfl⟩ := hrel
        by_cases hjN : j < N
        · have hj64 : j < 64 := by omega
          have HST : Hid (setTo P (j + 1) = if P j = true then setTo P j ||| 1#64 <<< j else setTo P j) := Lib.hid rfl
          obtain ⟨b1, o1, rfl, hb1, hc1⟩ := (HK.out.ext HG.out.e).get (k := j) (by rw [HNL.out, ← HN.out]; exact hjN)
          rw [nth_natI (by rw [← HN.out]; exact hjN)] at hc1
          have HPj := Lib.hid (HPJ.out j)
          have hm := HBD.out j (by rw [← HN.out]; exact hjN)
          generalize nth ms j = x at *
          obtain ⟨bb, hbb⟩ : ∃ bb, x.testBit k = bb := ⟨_, rfl⟩
          have HQ : Hid (P j = bb) := Lib.hid (by rw [HPj.out, ← hbb])
          clear HPj
          cases bb
          · have hb1 : b01 x k = 0 := by unfold b01; rw [hbb]; rfl
            have hb2 : bits .and .i64 ((x : Int) / 2 ^ k) 1 = 0 := by rw [and_divZ]; exact hb1
            clear hbb
            go_wp2_with fail
            go_round
            case rel => exact ⟨j + 1, hjN, by go_num, by rw [HST.out, HQ.out]; rfl⟩
            case measure => simp [RowKit.intOf]; omega
          · have hb1 : b01 x k = 1 := by unfold b01; rw [hbb]; rfl
            have hb2 : bits .and .i64 ((x : Int) / 2 ^ k) 1 = 1 := by rw [and_divZ]; exact hb1
            clear hbb
            go_wp2_with fail
            go_round
            case rel => exact ⟨j + 1, hjN, by go_num, by rw [HST.out, HQ.out]; rfl⟩
            case measure => simp [RowKit.intOf]; omega
        · obtain rfl : N = j := by omega
          have HO : Hid (∀ o, (wr.alloc o).ownsRow w.heap.size 63 1 u5 ((bldVs ms n).take k).length (((bldVs ms n).take k).map uv)) := Lib.hid fun o => (HG.out.ext' ((Ext.refl wr).alloc o)).own
          have HPA : Hid (∀ o, GL w 63 uv ((bldVs ms n).take k) u5 (wr.alloc o)) := Lib.hid fun o => HG.out.ext' ((Ext.refl wr).alloc o)
          have hsz1 : w.heap.size ≤ wr.heap.size := HG.out.e.size
          have hF := HLK.out
          generalize (bldVs ms n).take k = F at *
          generalize setTo P N = S at *
          have HONE : Hid (∀ u ∈ [Value.int .u64 (un S)], u.oneCell' = true) := Lib.hid (by simp [Value.oneCell'])
          go_wp2_with (at_builtin; refine wpList_append_lies _ rfl _ _ 25 rfl w.heap.size 63 i0 _ 1 8 Tryz.underlying25 hi1 hz0 hz1 hz2 rfl (by decide) u5 F.length _ rfl (HO.out _) ⟨wr.heap.size, 0, none⟩ 1 1 [.int .u64 (un S)] rfl rfl (cell_one_new _ _ _) HONE.out (by decide) (by unfold maxLen; omega) (by omega) (Nat.le_trans hsz1 (by simp)) (wr.heap.size + 1) (by simp) ?_; intro gx cap W1 hown hgrow hat hlt2; have hpush := (HPA.out _).push (x := S) hown hgrow; have HPU := Lib.hid hpush; clear hpush hown hgrow hat)
          go_roundw
          case rel => exact ⟨k + 1, hkN, by go_num, Lib.hid (by have h := HPU.out; rw [hF] at h; rw [HTK.out]; exact h)⟩
          case measure => simp [RowKit.intOf]; omega
    · obtain rfl : n = k := by omega
      have hg := HG.out
      rw [List.take_of_length_le (by rw [bldVs_len]; exact Nat.le_refl _)] at hg
      obtain ⟨a, c, rfl, ho⟩ := hg.yu (by rw [bldVs_len]; omega)
      have HO := Lib.hid ho
      have HX := Lib.hid hg.e
      clear hg ho
      go_wp2_with fail
      go_ret
      exact ⟨a, c, rfl, HO.out, HX.out⟩
end Wt

/- Walk: wittingref32.pairs; lists of pairs and of their keys as the reference gathers them. -/
namespace Wt
open Go Go.RowKit Go.Maps Go.Proofs Fm

/-- A list of pairs and two lists of keys that the call has made by appending. -/
structure K3 (w0 : World) (L : List (Nat × Nat)) (F S : List Nat) (v1 v2 v3 : Value) (wr : World) : Prop where
  e : Ext w0 wr
  o1 : wr.ownsRow w0.heap.size 23 2 v1 L.length (rowE L)
  o2 : wr.ownsRow w0.heap.size 3 1 v2 F.length ((natI F).map iv)
  o3 : wr.ownsRow w0.heap.size 3 1 v3 S.length ((natI S).map iv)
  ap : ∀ g, v2.ownBlock = some g → v3.ownBlock = some g → False
section
variable {w0 wr W1 : World} {L : List (Nat × Nat)} {F S : List Nat} {v1 v2 v3 v' : Value}
theorem K3.nil (w : World) : K3 w [] [] [] (.slice none 0 0) (.slice none 0 0) (.slice none 0 0) w := ⟨Ext.refl _, World.ownsRow_nil _ _ _ _, World.ownsRow_nil _ _ _ _, World.ownsRow_nil _ _ _ _, fun g h => by simp [Value.ownBlock] at h⟩
theorem K3.ext' {w' : World} (h : K3 w0 L F S v1 v2 v3 wr) (e : Ext wr w') : K3 w0 L F S v1 v2 v3 w' :=
  have hk : ∀ {T sz n : Nat} {x : Value} {xs : List Value}, wr.ownsRow w0.heap.size T sz x n xs → w'.ownsRow w0.heap.size T sz x n xs := fun {_ _ _ x _} ho => ho.kept (row := none) ⟨e.os, e.tape, e.output, e.size, fun k hk _ => e.block k hk⟩ (by cases x.ownBlock <;> simp)
  ⟨h.e.trans e, hk h.o1, hk h.o2, hk h.o3, h.ap⟩
theorem K3.push1 (h : K3 w0 L F S v1 v2 v3 wr) {p : Nat × Nat} (ho : W1.ownsRow w0.heap.size 23 2 v' (L.length + 1) (rowE L ++ peCells p)) (g : wr.grownBy W1 v1.ownBlock) : K3 w0 (L ++ [p]) F S v' v2 v3 W1 := by
  refine ⟨ext_of_grown h.e g (fun b hb => (h.o1.lt b hb).1), ?_, h.o2.kept g (own_ne h.o2 h.o1 (by decide)), h.o3.kept g (own_ne h.o3 h.o1 (by decide)), h.ap⟩
  rw [List.length_append, rowE_append]
  simpa [rowE] using ho
theorem K3.push2 (h : K3 w0 L F S v1 v2 v3 wr) {x g n cap H : Nat} (ho : W1.ownsRow w0.heap.size 3 1 (.slice (some ⟨g, 0, none⟩) n cap) (F.length + 1) ((natI F).map iv ++ [iv (x : Int)])) (hg : wr.grownBy W1 v2.ownBlock) (hat : v2.ownBlock = some g ∨ g = H) (hH : wr.heap.size ≤ H) :
    K3 w0 L (F ++ [x]) S v1 (.slice (some ⟨g, 0, none⟩) n cap) v3 W1 := by
  refine ⟨ext_of_grown h.e hg (fun b hb => (h.o2.lt b hb).1), h.o1.kept hg (own_ne h.o1 h.o2 (by decide)), ?_, h.o3.kept hg ?_, fun g' h1 h2 => ?_⟩
  · have e1 : (natI (F ++ [x])).map iv = (natI F).map iv ++ [iv (x : Int)] := by simp [natI]
    rw [e1, List.length_append]; exact ho
  · cases hu : v3.ownBlock with
    | none => exact .inl rfl
    | some b => exact .inr fun e => h.ap b e.symm hu
  · simp only [Value.ownBlock, Option.some.injEq] at h1
    subst h1
    rcases hat with h3 | h3
    · exact h.ap _ h3 h2
    · have := (h.o3.lt _ h2).2; omega
theorem K3.push3 (h : K3 w0 L F S v1 v2 v3 wr) {x g n cap H : Nat} (ho : W1.ownsRow w0.heap.size 3 1 (.slice (some ⟨g, 0, none⟩) n cap) (S.length + 1) ((natI S).map iv ++ [iv (x : Int)])) (hg : wr.grownBy W1 v3.ownBlock) (hat : v3.ownBlock = some g ∨ g = H) (hH : wr.heap.size ≤ H) :
    K3 w0 L F (S ++ [x]) v1 v2 (.slice (some ⟨g, 0, none⟩) n cap) W1 := by
  refine ⟨ext_of_grown h.e hg (fun b hb => (h.o3.lt b hb).1), h.o1.kept hg (own_ne h.o1 h.o3 (by decide)), h.o2.kept hg ?_, ?_, fun g' h1 h2 => ?_⟩
  · cases hu : v2.ownBlock with
    | none => exact .inl rfl
    | some b => exact .inr fun e => h.ap b hu e.symm
  · have e1 : (natI (S ++ [x])).map iv = (natI S).map iv ++ [iv (x : Int)] := by simp [natI]
    rw [e1, List.length_append]; exact ho
  · simp only [Value.ownBlock, Option.some.injEq] at h2
    subst h2
    rcases hat with h3 | h3
    · exact h.ap _ h1 h3
    · have := (h.o2.lt _ h1).2; omega
theorem RI_own_all {w : World} {B : Nat} {l : List Nat} {v : Value} (h : w.ownsRow B 3 1 v l.length ((natI l).map iv)) (hl : l.length ≤ 140737488355328) : ∃ a c, v = .slice a l.length c ∧ ∀ w'', Agree B w w'' → RI w'' a (natI l) := by
  have hn := natI_len l
  rw [← hn] at h
  obtain ⟨a, c, rfl, -⟩ := RI_of_own h (by omega)
  refine ⟨a, c, by rw [hn], fun w'' ha => ?_⟩
  obtain ⟨a', c', e', hr⟩ := RI_of_own (own_agree h ha) (by omega)
  injection e' with e1
  rw [e1]
  exact hr
end
/-- A model in a box is told at last as memory of its own. -/
theorem ARq.all {W0 wr : World} {n len vc B : Nat} {va : Option Addr} {V : List (BitVec 64)} {svs : List Value} {rows : List (List (BitVec 64))} {vr : Value} (h : ARq W0 n len (.slice va V.length vc) svs rows vr wr) (hv : OU wr B (.slice va V.length vc) V) (hB : B ≤ n + 1) (hVl : V.length ≤ 1000) (hr : rows.length ≤ 1000) (hrl : ∀ j, j < rows.length → (nth rows j).length ≤ 1000) :
    ∃ ra rc, vr = .slice ra rows.length rc ∧ ∀ w'', Agree B wr w'' → RM w'' va ra ⟨(len : Int), V, rows⟩ := by
  have hsl := h.rl
  obtain ⟨ra, rc, rfl⟩ : ∃ p c, vr = .slice p rows.length c := by
    rcases h.orr.2 with ⟨rfl, h0⟩ | ⟨g, cap, cur, rfl, _⟩
    · exact ⟨none, 0, by rw [← hsl, h0]⟩
    · exact ⟨some ⟨g, 0, none⟩, cap, by rw [hsl]⟩
  refine ⟨ra, rc, rfl, fun w'' ag => ⟨RU_of_OU' (own_agree hv ag) rfl (by omega), ?_⟩⟩
  exact RR_of_rows (own_agree (own_mono h.orr hB) ag) hsl (fun j hj => own_agree (own_mono (h.rw j hj) hB) ag) (by show rows.length ≤ _; omega) (fun j hj => by have := hrl j hj; show (nth rows j).length ≤ _; omega)
/-- The model of the pairs with their keys. -/
def prM32 (b : Nat) (L : List (Nat × Nat)) (F S : List Nat) : Mo := ⟨(L.length : Int), bldVs (L.map (twoW b)) (2 * b), [bldRow L.length (nth (natI F)), bldRow L.length (nth (natI S))]⟩
theorem bldRow_congr {n : Nat} {k1 k2 : Nat → Int} (h : ∀ v, v < n → k1 v = k2 v) : bldRow n k1 = bldRow n k2 := by
  unfold bldRow
  refine List.map_congr_left fun x hx => ?_
  have hx : x < n := List.mem_range.1 hx
  unfold bldR
  have : ∀ m, m ≤ n → setTo (fun v => k1 x == k1 v) m = setTo (fun v => k2 x == k2 v) m := by
    intro m
    induction m with
    | zero => intro _; rfl
    | succ m ih =>
      intro hm
      show (if (k1 x == k1 m) = true then _ else _) = (if (k2 x == k2 m) = true then _ else _)
      rw [ih (by omega), h x hx, h m (by omega)]
  exact this n (Nat.le_refl _)
theorem prM32_two {b : Nat} {L : List (Nat × Nat)} {k1 k2 : Nat × Nat → Nat} {key : Nat → Nat × Nat → Int} (h1 : ∀ p, key 0 p = (k1 p : Int)) (h2 : ∀ p, key 1 p = (k2 p : Int)) : prM32 b L (L.map k1) (L.map k2) = twoM b L key := by
  unfold prM32 twoM bldM
  have e1 : ∀ (k : Nat × Nat → Nat) v, v < L.length → nth (natI (L.map k)) v = (k (nth L v) : Int) := fun k v hv => by
    rw [nth_natI (by simpa using hv), nth_eq _ _ (by simpa using hv), List.getElem_map, nth_eq L v hv]
  rw [show List.range 2 = [0, 1] from rfl]
  simp only [List.map_cons, List.map_nil, List.length_map]
  rw [bldRow_congr fun v hv => (e1 k1 v hv).trans (h1 _).symm, bldRow_congr fun v hv => (e1 k2 v hv).trans (h2 _).symm]
  rfl
end Wt

/- Walk: wittingref32.pairs. -/
namespace Wt
open Go Go.RowKit Go.Maps Go.Proofs Fm

/-- A model of its own, and a list that came in. -/
def RetPq (A : Mo) (v : Value) (e : Ending) (w w' : World) : Prop := ∃ va ra vc rc, e = .returned (.tuple #[.agg #[.int .i64 A.worlds, .slice va A.val.length vc, .slice ra A.rel.length rc], v, .int .i64 0]) ∧ (∀ w'', Agree w.heap.size w' w'' → RM w'' va ra A) ∧ Ext w w'
theorem twoW_lt {b : Nat} (hb : b ≤ 4) {p : Nat × Nat} (h : p.1 < 2 ^ b ∧ p.2 < 2 ^ b) : twoW b p < 65536 := by
  obtain ⟨x, y⟩ := p
  dsimp only at h
  have h1 : 2 ^ b ≤ 2 ^ 4 := Nat.pow_le_pow_right (by omega) hb
  have : twoW b (x, y) < 2 ^ 16 := by
    unfold twoW
    refine Nat.or_lt_two_pow (by omega) ?_
    show y <<< b < _
    rw [Nat.shiftLeft_eq]
    have : y * 2 ^ b ≤ 16 * 16 := Nat.mul_le_mul (by omega) (by omega)
    omega
  exact this
theorem min_u64 {b : Nat} (hb : b < 64) : min (IntKind.u64.wrap (b : Int)).toNat 64 = b := by
  rw [IntKind.wrap_u64]
  omega
theorem or_shlU {b x y : Nat} (hb : b ≤ 4) (hx : x < 2 ^ b) (hy : y < 2 ^ b) : bits .or .i64 (x : Int) (IntKind.i64.wrap ((y : Int) * 2 ^ min (IntKind.u64.wrap (b : Int)).toNat 64)) = ((twoW b (x, y) : Nat) : Int) := by
  rw [min_u64 (by omega)]
  exact or_shlZ hb hx hy
theorem two_newsY (w : World) (u v : Value) (T : Nat) : ∀ j x, [u, v][j]? = some x → (w.alloc (.cells #[u, v] T)).cell? ((⟨w.heap.size, 0, none⟩ : Addr).add j) = some x := by
  intro j x hj
  rw [Addr.add_lit, Nat.zero_add]
  match j, hj with
  | 0, hj => simp at hj; subst hj; simp
  | 1, hj => simp at hj; subst hj; simp
  | j + 2, hj => simp at hj
theorem ARq.two {W0 wr W1 : World} {n len : Nat} {vv v' s1 s2 : Value} {r1 r2 : List (BitVec 64)} (h : ARq W0 n len vv [] [] (.slice none 0 0) wr) (h1 : OU wr (n + 1) s1 r1) (h2 : OU wr (n + 1) s2 r2) (hd : Apart s2 s1) (ho : W1.ownsRow (n + 1) 25 1 v' 2 [s1, s2]) (g : wr.grownBy W1 none) :
    ARq W0 n len vv [s1, s2] [r1, r2] v' (W1.setCell ⟨n, 2, none⟩ v') := by
  have hb : W1.heap[n]? = wr.heap[n]? := g.block _ h.out.lt (fun e => by cases e)
  have hk : ∀ {m : Nat} {v : Value} {xs : List Value}, wr.ownsRow (n + 1) 63 1 v m xs → (W1.setCell ⟨n, 2, none⟩ v').ownsRow (n + 1) 63 1 v m xs := fun {_ v _} ho => setOther (ho.kept g (by cases v.ownBlock <;> simp)) (by omega)
  refine ⟨(Below.grown h.e g (by have := h.out.lt; omega) (fun k hk => by cases hk)).setCell (by simp) _, h.lo, (h.out.keep hb).set2 v', setOther ho (by omega), rfl, fun j hj => ?_, fun i j hij hj => ?_⟩
  · match j, hj with
    | 0, _ => exact hk h1
    | 1, _ => exact hk h2
    | j + 2, hj => have hj : j + 2 < 2 := hj; omega
  · match i, j, hij, hj with
    | 0, 1, _, _ => exact hd
    | i + 1, 1, h, _ => omega
    | _, j + 2, _, hj => have hj : j + 2 < 2 := hj; omega
set_option maxRecDepth 20000 in
set_option maxHeartbeats 8000000 in
theorem r32pairs_any (b : Nat) (L : List (Nat × Nat)) (F S : List Nat) (la fa sa : Option Addr) (lc fc sc : Nat) (w : World) (hl : RPe w la L) (hf : RI w fa (natI F)) (hs : RI w sa (natI S)) (hb : b ≤ 4) (h64 : L.length ≤ 64) (hF : F.length = L.length) (hS : S.length = L.length) (hL : ∀ k, k < L.length → (nth L k).1 < 2 ^ b ∧ (nth L k).2 < 2 ^ b) :
    Calls Tryz.prog 63 #[.slice la L.length lc, .int .i64 (b : Int), .slice fa L.length fc, .slice sa L.length sc] w fun e w' => RetPq (prM32 b L F S) (.slice la L.length lc) e w w' := by
  have hE1 : Ext w (w.alloc (.cells #[.int .i64 0, .slice none 0 0, .slice none 0 0] 28)) := (Ext.refl w).alloc _
  have HOR := Lib.hid (OutAt.new w (.int .i64 0) (.slice none 0 0) (.slice none 0 0) 28)
  have HE := Lib.hid hE1
  have HL := Lib.hid (hl.ext hE1)
  have HF := Lib.hid (hf.ext hE1)
  have HS := Lib.hid (hs.ext hE1)
  have HSZ : Hid ((w.alloc (.cells #[.int .i64 0, .slice none 0 0, .slice none 0 0] 28)).heap.size = w.heap.size + 1) := Lib.hid (by simp)
  have hln := hl.len
  have HLB := Lib.hid hL
  have HBB := Lib.hid hb
  have HFL := Lib.hid hF
  have HSL := Lib.hid hS
  have h63 : b < 63 := by omega
  clear hl hf hs hL hE1 hF hS
  go_enter Tryz.func63, Tryz.ntmps63
  go_wp2_with fail
  generalize w.alloc (.cells #[.int .i64 0, .slice none 0 0, .slice none 0 0] 28) = w0 at *
  go_loopw [11, 12] (fun v i wr => ∃ k : Nat, k ≤ L.length ∧ i = .int .i64 (k : Int) ∧ Hid (GL w0 3 iv (natI ((L.take k).map (twoW b))) v wr)) (fun _ i _ => L.length - (RowKit.intOf i).toNat)
  case atStart => exact ⟨0, Nat.zero_le _, rfl, Lib.hid ⟨Ext.refl _, by rw [List.take_zero]; exact World.ownsRow_nil _ _ _ _⟩⟩
  case round =>
    obtain ⟨k, hk, rfl, HG⟩ := hrel
    by_cases hkl : k < L.length
    · obtain ⟨bb, off, rfl, hbb, hc, hd⟩ := (HL.out.ext HG.out.e).get hkl
      have hxy := HLB.out k hkl
      have HTK : Hid (natI ((L.take (k + 1)).map (twoW b)) = natI ((L.take k).map (twoW b)) ++ [((twoW b (nth L k) : Nat) : Int)]) := Lib.hid (by rw [take_nthZ hkl]; simp [natI])
      generalize nth L k = xy at *
      obtain ⟨x, y⟩ := xy
      dsimp only at hc hd hxy
      have HXY := Lib.hid hxy
      have hx16 : x < 16 := by have : 2 ^ b ≤ 2 ^ 4 := Nat.pow_le_pow_right (by omega) HBB.out; omega
      have HSS : Hid (∀ w', Ext wr w' → w'.cell? ⟨bb, off + k * 2, none⟩ = some (.int .i64 (x : Int)) ∧ w'.cell? ⟨bb, off + k * 2 + 1, none⟩ = some (.int .i64 (y : Int))) := Lib.hid fun w' h' => ⟨h'.cell hc, h'.cell hd⟩
      clear hxy
      go_wp2_with fail
      refine wp_region_E 16 (fun w' => w'.cell? ⟨bb, off + k * 2, none⟩ = some (.int .i64 (x : Int)) ∧ w'.cell? ⟨bb, off + k * 2 + 1, none⟩ = some (.int .i64 (y : Int))) (by kernel_rfl) ?_
      refine wpAnyE_take (i := 0) (v := ?_) (.here) (by kernel_rfl) (fun _ _ _ h => h) (HSS.out _ (Ext.refl _).drew) (by rfl) ?_ ?_
      rotate_left
      focus (intro w hSw; (try dsimp only at hSw); go_simp; try with_reducible rfl)
      try simp only [Act.put, List.setIfInBounds_toArray, List.set_cons_zero, List.set_cons_succ]
      refine wpAnyE_take (i := 1) (v := ?_) (.next (.here)) (by kernel_rfl) (fun _ _ _ h => h) (HSS.out _ (Ext.refl _).drew) (by rfl) ?_ ?_
      rotate_left
      focus (intro w hSw; (try dsimp only at hSw); go_simp; try with_reducible rfl)
      try simp only [Act.put, List.setIfInBounds_toArray, List.set_cons_zero, List.set_cons_succ]
      refine wpAnyE_take (i := 2) (v := ?_) (.next (.next (.here))) (by kernel_rfl) (fun _ _ _ h => h) (HSS.out _ (Ext.refl _).drew) (by rfl) ?_ ?_
      rotate_left
      focus (intro w hSw; (try dsimp only at hSw); go_simp; try with_reducible rfl)
      try simp only [Act.put, List.setIfInBounds_toArray, List.set_cons_zero, List.set_cons_succ]
      refine wpAnyE_take (i := 3) (v := ?_) (.next (.next (.next (.here)))) (by kernel_rfl) (fun _ _ _ h => h) (HSS.out _ (Ext.refl _).drew) (by rfl) ?_ ?_
      rotate_left
      focus (intro w hSw; (try dsimp only at hSw); go_simp; try with_reducible rfl)
      try simp only [Act.put, List.setIfInBounds_toArray, List.set_cons_zero, List.set_cons_succ]
      refine wpAnyE_take (i := 4) (v := ?_) (.next (.next (.next (.next (.here))))) (by kernel_rfl) (fun _ _ _ h => h) (HSS.out _ (Ext.refl _).drew) (by rfl) ?_ ?_
      rotate_left
      focus (intro w hSw; (try dsimp only at hSw); go_simp; try with_reducible rfl)
      try simp only [Act.put, List.setIfInBounds_toArray, List.set_cons_zero, List.set_cons_succ]
      refine wpAnyE_take (i := 5) (v := ?_) (.next (.next (.next (.next (.next (.here)))))) (by kernel_rfl) (fun _ _ _ h => h) (HSS.out _ (Ext.refl _).drew) (by rfl) ?_ ?_
      rotate_left
      focus (intro w hSw; (try dsimp only at hSw); go_simp; try with_reducible rfl)
      try simp only [Act.put, List.setIfInBounds_toArray, List.set_cons_zero, List.set_cons_succ]
      refine wpAnyE_take (i := 6) (v := ?_) (.next (.next (.next (.next (.next (.next (.here))))))) (by kernel_rfl) (fun _ _ _ h => h) (HSS.out _ (Ext.refl _).drew) (by rfl) ?_ ?_
      rotate_left
      focus (intro w hSw; (try dsimp only at hSw); go_simp; try with_reducible rfl)
      try simp only [Act.put, List.setIfInBounds_toArray, List.set_cons_zero, List.set_cons_succ]
      refine wpAnyE_take (i := 7) (v := ?_) (.next (.next (.next (.next (.next (.next (.next (.here)))))))) (by kernel_rfl) (fun _ _ _ h => h) (HSS.out _ (Ext.refl _).drew) (by rfl) ?_ ?_
      rotate_left
      focus (intro w hSw; (try dsimp only at hSw); go_simp; try with_reducible rfl)
      try simp only [Act.put, List.setIfInBounds_toArray, List.set_cons_zero, List.set_cons_succ]
      refine wpAnyE_take (i := 8) (v := ?_) (.next (.next (.next (.next (.next (.next (.next (.next (.here))))))))) (by kernel_rfl) (fun _ _ _ h => h) (HSS.out _ (Ext.refl _).drew) (by rfl) ?_ ?_
      rotate_left
      focus (intro w hSw; (try dsimp only at hSw); go_simp; try with_reducible rfl)
      try simp only [Act.put, List.setIfInBounds_toArray, List.set_cons_zero, List.set_cons_succ]
      refine wpAnyE_take (i := 9) (v := ?_) (.next (.next (.next (.next (.next (.next (.next (.next (.next (.here)))))))))) (by kernel_rfl) (fun _ _ _ h => h) (HSS.out _ (Ext.refl _).drew) (by rfl) ?_ ?_
      rotate_left
      focus (intro w hSw; (try dsimp only at hSw); go_simp; try with_reducible rfl)
      try simp only [Act.put, List.setIfInBounds_toArray, List.set_cons_zero, List.set_cons_succ]
      refine wpAnyE_take (i := 10) (v := ?_) (.next (.next (.next (.next (.next (.next (.next (.next (.next (.next (.here))))))))))) (by kernel_rfl) (fun _ _ _ h => h) (HSS.out _ (Ext.refl _).drew) (by rfl) ?_ ?_
      rotate_left
      focus (intro w hSw; (try dsimp only at hSw); go_simp; try with_reducible rfl)
      try simp only [Act.put, List.setIfInBounds_toArray, List.set_cons_zero, List.set_cons_succ]
      refine wpAnyE_take (i := 11) (v := ?_) (.next (.next (.next (.next (.next (.next (.next (.next (.next (.next (.next (.here)))))))))))) (by kernel_rfl) (fun _ _ _ h => h) (HSS.out _ (Ext.refl _).drew) (by rfl) ?_ ?_
      rotate_left
      focus (intro w hSw; (try dsimp only at hSw); go_simp; try with_reducible rfl)
      try simp only [Act.put, List.setIfInBounds_toArray, List.set_cons_zero, List.set_cons_succ]
      refine wpAnyE_take (i := 12) (v := ?_) (.next (.next (.next (.next (.next (.next (.next (.next (.next (.next (.next (.next (.here))))))))))))) (by kernel_rfl) (fun _ _ _ h => h) (HSS.out _ (Ext.refl _).drew) (by rfl) ?_ ?_
      rotate_left
      focus (intro w hSw; (try dsimp only at hSw); go_simp; try with_reducible rfl)
      try simp only [Act.put, List.setIfInBounds_toArray, List.set_cons_zero, List.set_cons_succ]
      refine wpAnyE_take (i := 13) (v := ?_) (.next (.next (.next (.next (.next (.next (.next (.next (.next (.next (.next (.next (.next (.here)))))))))))))) (by kernel_rfl) (fun _ _ _ h => h) (HSS.out _ (Ext.refl _).drew) (by rfl) ?_ ?_
      rotate_left
      focus (intro w hSw; (try dsimp only at hSw); go_simp; try with_reducible rfl)
      try simp only [Act.put, List.setIfInBounds_toArray, List.set_cons_zero, List.set_cons_succ]
      refine wpAnyE_take (i := 14) (v := ?_) (.next (.next (.next (.next (.next (.next (.next (.next (.next (.next (.next (.next (.next (.next (.here))))))))))))))) (by kernel_rfl) (fun _ _ _ h => h) (HSS.out _ (Ext.refl _).drew) (by rfl) ?_ ?_
      rotate_left
      focus (intro w hSw; (try dsimp only at hSw); go_simp; try with_reducible rfl)
      try simp only [Act.put, List.setIfInBounds_toArray, List.set_cons_zero, List.set_cons_succ]
      rw [or_shlU HBB.out HXY.out.1 HXY.out.2]
      obtain ⟨z, hz⟩ : ∃ z, z = twoW b (x, y) := ⟨_, rfl⟩
      rw [← hz] at HTK ⊢
      clear hz
      refine wpAnyE_one (k := 15) (.next (.next (.next (.next (.next (.next (.next (.next (.next (.next (.next (.next (.next (.next (.next (.here)))))))))))))))) (by kernel_rfl) (fun K hK => ?_)
      go_simp
      refine hK.out _ _ (fun _ => HSS.out _ ((Ext.refl _).drew.alloc _)) ?_
      clear hK
      try simp only [Act.put, List.setIfInBounds_toArray, List.set_cons_zero, List.set_cons_succ]
      refine wpAnyE_seq [16, 17] (.cons (.next (.next (.next (.next (.next (.next (.next (.next (.next (.next (.next (.next (.next (.next (.next (.next (.here))))))))))))))))) (.cons (.next (.next (.next (.next (.next (.next (.next (.next (.next (.next (.next (.next (.next (.next (.next (.next (.next (.here)))))))))))))))))) (.nil))) (by kernel_rfl) (by kernel_rfl) ?_
      have HTS : Hid (((L.take k).map (twoW b)).length = k) := Lib.hid (by simp; omega)
      have HO : Hid (∀ o, (wr.drew.alloc o).ownsRow w0.heap.size 3 1 u11 (natI ((L.take k).map (twoW b))).length ((natI ((L.take k).map (twoW b))).map iv)) := Lib.hid fun o => (HG.out.ext' ((Ext.refl wr).drew.alloc o)).own
      have HPA : Hid (∀ o, GL w0 3 iv (natI ((L.take k).map (twoW b))) u11 (wr.drew.alloc o)) := Lib.hid fun o => HG.out.ext' ((Ext.refl wr).drew.alloc o)
      have HCN : Hid (∀ j u, [Value.int .i64 (z : Int)][j]? = some u → (wr.drew.alloc (.cells #[.int .i64 (z : Int)] 3)).cell? ((⟨wr.heap.size, 0, none⟩ : Addr).add j) = some u) := Lib.hid (cell_one_new wr.drew _ _)
      have HONE : Hid (∀ u ∈ [Value.int .i64 (z : Int)], u.oneCell' = true) := Lib.hid (by simp [Value.oneCell'])
      have hsz1 : w0.heap.size ≤ wr.heap.size := HG.out.e.size
      have hzl : (natI ((L.take k).map (twoW b))).length ≤ 64 := by rw [natI_len, HTS.out]; omega
      obtain ⟨i0, hi1, hz0, hz1, hz2⟩ := info_parts int_info
      generalize natI ((L.take k).map (twoW b)) = ZL at *
      go_wp2_with (at_builtin; refine wpList_append_lies _ rfl _ _ 22 rfl w0.heap.size 3 i0 _ 1 8 Tryz.underlying22 hi1 hz0 hz1 hz2 rfl (by decide) u11 ZL.length (ZL.map iv) rfl (HO.out _) ⟨wr.heap.size, 0, none⟩ 1 1 [.int .i64 (z : Int)] rfl rfl HCN.out HONE.out (by decide) (by unfold maxLen; omega) (by omega) (Nat.le_trans hsz1 (by simp)) (wr.heap.size + 1) (by simp) ?_; intro gx cap W1 hown hgrow hat hlt2; have hpush := (HPA.out _).push (x := (z : Int)) hown hgrow; have HPU := Lib.hid hpush; clear hpush hown hgrow hat)
      go_roundw
      case rel => exact ⟨k + 1, hkl, by go_num, Lib.hid (by rw [HTK.out]; exact HPU.out)⟩
      case measure => simp [RowKit.intOf]; omega
    · obtain rfl : k = L.length := by omega
      have hg := HG.out
      rw [List.take_length] at hg
      obtain ⟨wa, wc, rfl, hri⟩ := RI_of_own hg.own (by rw [natI_len]; simp; omega)
      have hml : (L.map (twoW b)).length = L.length := by simp
      have hnl : (natI (L.map (twoW b))).length = L.length := by rw [natI_len, hml]
      rw [hnl]
      have HXr := Lib.hid hg.e
      have hvv := r32val_any (L.map (twoW b)) wa wc (2 * b) wr hri (by omega) (by have := HBB.out; omega) (fun k hk => by
        rw [hml] at hk
        rw [nth_eq _ _ (by rw [hml]; exact hk), List.getElem_map, ← nth_eq L k hk]
        exact twoW_lt HBB.out (HLB.out k hk))
      rw [hml, show ((2 * b : Nat) : Int) = 2 * (b : Int) by omega] at hvv
      have HVV := Lib.hid hvv
      clear hvv hri hg HG hml hnl
      have hb4 := HBB.out
      have HVl := Lib.hid (bldVs_len (L.map (twoW b)) (2 * b))
      obtain ⟨V, hV⟩ : ∃ V, V = bldVs (L.map (twoW b)) (2 * b) := ⟨_, rfl⟩
      rw [← hV] at HVV HVl
      have HV := Lib.hid hV
      clear hV
      go_wp2_with fail
      refine HVV.out.mono ?_
      rintro _ w2 ⟨va, vc, rfl, hov, hE2⟩
      have HOV := Lib.hid hov
      have HE2 := Lib.hid (HXr.out.trans hE2)
      have HB0 : Hid (w0.heap.size ≤ wr.heap.size ∧ wr.heap.size ≤ w2.heap.size) := Lib.hid ⟨HXr.out.size, hE2.size⟩
      clear hov hE2
      dsimp only
      go_wp2_with fail
      have hA0 := ARq.start (wr := w2) (x := .int .i64 (L.length : Int)) (vv := .slice va V.length vc) (len := L.length) rfl
      have hE3 : Ext w2 (w2.alloc (.cells #[.int .i64 (L.length : Int), .slice va V.length vc, .slice none 0 0] 28)) := (Ext.refl _).alloc _
      have HA0 := Lib.hid hA0
      have HE3 := Lib.hid hE3
      clear hA0 hE3
      generalize w2.alloc (.cells #[.int .i64 (L.length : Int), .slice va V.length vc, .slice none 0 0] 28) = W0 at *
      have HS3 : Hid (w2.heap.size < W0.heap.size) := Lib.hid HA0.out.lo
      have HQ1 : Hid (∀ W, Ext W0 W → Calls Tryz.prog 56 #[.slice fa L.length fc] W fun e w' => RetY (bldRow L.length (nth (natI F))) e W w') := Lib.hid fun W h => by
        have h9 := r32eqv_any (natI F) fa fc W (HF.out.ext ((HE2.out.trans HE3.out).trans h)) (by rw [natI_len, HFL.out]; omega)
        rw [natI_len, HFL.out] at h9
        exact h9
      have HQ2 : Hid (∀ W, Ext W0 W → Calls Tryz.prog 56 #[.slice sa L.length sc] W fun e w' => RetY (bldRow L.length (nth (natI S))) e W w') := Lib.hid fun W h => by
        have h9 := r32eqv_any (natI S) sa sc W (HS.out.ext ((HE2.out.trans HE3.out).trans h)) (by rw [natI_len, HSL.out]; omega)
        rw [natI_len, HSL.out] at h9
        exact h9
      have HR1l := Lib.hid (bldRow_len L.length (nth (natI F)))
      have HR2l := Lib.hid (bldRow_len L.length (nth (natI S)))
      have HAA : Hid (prM32 b L F S = ⟨(L.length : Int), V, [bldRow L.length (nth (natI F)), bldRow L.length (nth (natI S))]⟩) := Lib.hid (by unfold prM32; rw [← HV.out])
      generalize bldRow L.length (nth (natI F)) = R1 at *
      generalize bldRow L.length (nth (natI S)) = R2 at *
      have HSS : Hid (∀ w', Ext W0 w' → w'.cell? ⟨w2.heap.size, 2, none⟩ = some (.slice none 0 0)) := Lib.hid fun w' h => (HA0.out.out.ext h).c2
      have hlt0 := HS3.out
      obtain ⟨i2, hj1, hy0, hy1, hy2⟩ := info_parts sl_info
      go_wp2_with fail
      refine wp_region_E 8 (fun w' => w'.cell? ⟨w2.heap.size, 2, none⟩ = some (.slice none 0 0)) (by kernel_rfl) ?_
      refine wpAnyE_take (i := 0) (v := ?_) (.here) (by kernel_rfl) (fun _ _ _ h => h) (HSS.out _ (Ext.refl _).drew) (by rfl) ?_ ?_
      rotate_left
      focus (intro w hSw; (try dsimp only at hSw); go_simp; try with_reducible rfl)
      try simp only [Act.put, List.setIfInBounds_toArray, List.set_cons_zero, List.set_cons_succ]
      refine wpAnyE_take (i := 1) (v := ?_) (.next (.here)) (by kernel_rfl) (fun _ _ _ h => h) (HSS.out _ (Ext.refl _).drew) (by rfl) ?_ ?_
      rotate_left
      focus (intro w hSw; (try dsimp only at hSw); go_simp; try with_reducible rfl)
      try simp only [Act.put, List.setIfInBounds_toArray, List.set_cons_zero, List.set_cons_succ]
      refine wpAnyE_take (i := 2) (v := ?_) (.next (.next (.here))) (by kernel_rfl) (fun _ _ _ h => h) (HSS.out _ (Ext.refl _).drew) (by rfl) ?_ ?_
      rotate_left
      focus (intro w hSw; (try dsimp only at hSw); go_simp; try with_reducible rfl)
      try simp only [Act.put, List.setIfInBounds_toArray, List.set_cons_zero, List.set_cons_succ]
      refine wpAnyE_take (i := 4) (v := ?_) (.next (.next (.next (.next (.here))))) (by kernel_rfl) (fun _ _ _ h => h) (HSS.out _ (Ext.refl _).drew) (by rfl) ?_ ?_
      rotate_left
      focus (intro w hSw; (try dsimp only at hSw); go_simp; try with_reducible rfl)
      try simp only [Act.put, List.setIfInBounds_toArray, List.set_cons_zero, List.set_cons_succ]
      refine wpAnyE_one (k := 3) (.next (.next (.next (.here)))) (by kernel_rfl) (fun K hK => ?_)
      go_simp
      refine (HQ1.out _ (Ext.refl _).drew).mono ?_; rintro _ w3 ⟨a1, c1, rfl, ho1, hE4⟩; dsimp only
      refine hK.out _ _ (fun _ => HSS.out _ ((Ext.refl _).drew.trans hE4)) ?_
      clear hK
      try simp only [Act.put, List.setIfInBounds_toArray, List.set_cons_zero, List.set_cons_succ]
      refine wpAnyE_one (k := 5) (.next (.next (.next (.next (.next (.here)))))) (by kernel_rfl) (fun K hK => ?_)
      go_simp
      refine (HQ2.out _ ((Ext.refl _).drew.trans hE4)).mono ?_; rintro _ w4 ⟨a2, c2, rfl, ho2, hE5⟩; dsimp only
      refine hK.out _ _ (fun _ => HSS.out _ (((Ext.refl _).drew.trans hE4).trans hE5)) ?_
      clear hK
      try simp only [Act.put, List.setIfInBounds_toArray, List.set_cons_zero, List.set_cons_succ]
      refine wpAnyE_one (k := 6) (.next (.next (.next (.next (.next (.next (.here))))))) (by kernel_rfl) (fun K hK => ?_)
      go_simp
      refine hK.out _ _ (fun _ => HSS.out _ ((((Ext.refl _).drew.trans hE4).trans hE5).alloc _)) ?_
      clear hK
      try simp only [Act.put, List.setIfInBounds_toArray, List.set_cons_zero, List.set_cons_succ]
      have HE5 := Lib.hid (((Ext.refl W0).drew.trans hE4).trans hE5)
      have hA4 := HA0.out.ext' HE5.out
      have HA4 := Lib.hid hA4
      have hs30 : W0.drew.heap.size = W0.heap.size := rfl
      have hs34 := hE4.size
      have hs45 := hE5.size
      have HO1 : Hid (OU w4 (w2.heap.size + 1) (.slice a1 R1.length c1) R1) := Lib.hid (OU.mono (ho1.ext hE5) (by omega))
      have HO2 : Hid (OU w4 (w2.heap.size + 1) (.slice a2 R2.length c2) R2) := Lib.hid (OU.mono ho2 (by omega))
      have HAP : Hid (Apart (.slice a2 R2.length c2) (.slice a1 R1.length c1)) := Lib.hid (Apart.later ho2 fun b hb => (ho1.lt b hb).2)
      have hsW : w2.heap.size < w4.heap.size := HA4.out.out.lt
      clear ho1 ho2 hA4
      obtain ⟨sv1, hsv1⟩ : ∃ s, s = Value.slice a1 R1.length c1 := ⟨_, rfl⟩
      obtain ⟨sv2, hsv2⟩ : ∃ s, s = Value.slice a2 R2.length c2 := ⟨_, rfl⟩
      have HON : Hid (∀ u ∈ [Value.slice a1 R1.length c1, Value.slice a2 R2.length c2], u.oneCell' = true) := Lib.hid (by simp [Value.oneCell'])
      have HCN := Lib.hid (two_newsY w4 (Value.slice a1 R1.length c1) (Value.slice a2 R2.length c2) 25)
      have HXA : Hid (Ext w4 (w4.alloc (.cells #[.slice a1 R1.length c1, .slice a2 R2.length c2] 25))) := Lib.hid ((Ext.refl _).alloc _)
      have HA5 := Lib.hid (HA4.out.ext' HXA.out)
      have HO3 := Lib.hid (HO1.out.ext HXA.out)
      have HO4 := Lib.hid (HO2.out.ext HXA.out)
      refine wpAnyE_one (k := 7) (.next (.next (.next (.next (.next (.next (.next (.here)))))))) (by kernel_rfl) (fun K hK => ?_)
      refine step_append_lies _ rfl _ _ 26 rfl (w2.heap.size + 1) 25 i2 _ 1 24 Tryz.underlying26 hj1 hy0 hy1 hy2 rfl (by decide) (.slice none 0 0) 0 [] rfl (World.ownsRow_nil _ _ _ _) ⟨w4.heap.size, 0, none⟩ 2 2 [.slice a1 R1.length c1, .slice a2 R2.length c2] rfl rfl HCN.out HON.out (by decide) (by unfold maxLen; omega) (by omega) (by simp; omega) _ rfl ?_; intro gx cap W1 hown hgrow hat hlt2; have HOW := Lib.hid hown; have HGR := Lib.hid hgrow; clear hown hgrow hat
      refine hK.out _ _ (fun _ => ((HA5.out.out.keep (HGR.out.block _ HA5.out.out.lt (fun e => by cases e))).c2)) ?_
      clear hK
      try simp only [Act.put, List.setIfInBounds_toArray, List.set_cons_zero, List.set_cons_succ]
      refine wpAnyE_seq [8, 9] (.cons (.next (.next (.next (.next (.next (.next (.next (.next (.here))))))))) (.cons (.next (.next (.next (.next (.next (.next (.next (.next (.next (.here)))))))))) (.nil))) (by kernel_rfl) (by kernel_rfl) ?_
      have HOF := Lib.hid (HA5.out.out.keep (HGR.out.block _ HA5.out.out.lt (fun e => by cases e)))
      obtain ⟨p0, p1, p2, pfz⟩ := HOF.out
      have pf := pfz 2
      have HNEW := Lib.hid (HA5.out.two HO3.out HO4.out HAP.out HOW.out HGR.out)
      have hsn := HGR.out.size
      have hpl := HOF.out.lt
      clear pfz
      simp only [Nat.zero_add]
      go_upto_region 8 with fail
      have hnw := HNEW.out
      simp only [Nat.zero_add] at hnw
      have HNW := Lib.hid hnw
      have hxF : Ext w2 (W1.setCell ⟨w2.heap.size, 2, none⟩ (.slice (some ⟨gx, 0, none⟩) 2 cap)) := Below.trans HE3.out hnw.e
      have HXF := Lib.hid hxF
      clear hnw hxF HNEW p0 p1 p2 pf hsn hpl HOF
      generalize W1.setCell ⟨w2.heap.size, 2, none⟩ (.slice (some ⟨gx, 0, none⟩) 2 cap) = WF at *
      obtain ⟨ra, rc, hvr, hall⟩ := HNW.out.all (HOV.out.ext HXF.out) (by have := HB0.out; omega) (by rw [HVl.out]; omega) (by simp) (fun j hj => by
        match j, hj with
        | 0, _ => show R1.length ≤ _; rw [HR1l.out]; omega
        | 1, _ => show R2.length ≤ _; rw [HR2l.out]; omega
        | j + 2, hj => have hj : j + 2 < 2 := hj; omega)
      injection hvr with e1 _ e3
      subst e1
      subst e3
      have HALL := Lib.hid hall
      obtain ⟨o0, o1, o2, -⟩ := HNW.out.out
      have ol := HNW.out.out.lt
      have HOF := Lib.hid (HOR.out.ext (HE2.out.trans HXF.out))
      obtain ⟨r0, r1, r2, rfz⟩ := HOF.out
      have f0 := rfz 0
      have f1 := rfz 1
      have f2 := rfz 2
      have rl := HOF.out.lt
      clear hall rfz
      go_wp2_with fail
      have hs0 := HSZ.out
      have hs1 := HXr.out.size
      have hbk : ∀ k, k ≠ w.heap.size → (((WF.setCell ⟨w.heap.size, 0, none⟩ (.int .i64 (L.length : Int))).setCell ⟨w.heap.size, 1, none⟩ (.slice va V.length vc)).setCell ⟨w.heap.size, 2, none⟩ (.slice (some ⟨gx, 0, none⟩) 2 cap)).heap[k]? = WF.heap[k]? := fun k hne => by
        rw [heap_setCell_other _ _ _ _ (by simpa using hne), heap_setCell_other _ _ _ _ (by simpa using hne), heap_setCell_other _ _ _ _ (by simpa using hne)]
      have hkm : ∀ w'' : World, Agree w.heap.size (((WF.setCell ⟨w.heap.size, 0, none⟩ (.int .i64 (L.length : Int))).setCell ⟨w.heap.size, 1, none⟩ (.slice va V.length vc)).setCell ⟨w.heap.size, 2, none⟩ (.slice (some ⟨gx, 0, none⟩) 2 cap)) w'' → RM w'' va (some ⟨gx, 0, none⟩) ⟨(L.length : Int), V, [R1, R2]⟩ := fun w'' ag => HALL.out w'' fun k hk hl => (ag k (by omega) (by simp only [World.setCell, Array.size_modify]; omega)).trans (hbk k (by omega))
      have hEx : Ext w (((WF.setCell ⟨w.heap.size, 0, none⟩ (.int .i64 (L.length : Int))).setCell ⟨w.heap.size, 1, none⟩ (.slice va V.length vc)).setCell ⟨w.heap.size, 2, none⟩ (.slice (some ⟨gx, 0, none⟩) 2 cap)) := ext_set3Z (HE.out.trans (HE2.out.trans HXF.out)) (by omega) _ _ _
      have ho : OutAt WF w.heap.size (.int .i64 0) (.slice none 0 0) (.slice none 0 0) := HOF.out
      obtain ⟨e0, e1, e2, -⟩ := ((ho.set0 (.int .i64 (L.length : Int))).set1 (.slice va V.length vc)).set2 (.slice (some ⟨gx, 0, none⟩) 2 cap)
      clear r0 r1 r2 f0 f1 f2 rl o0 o1 o2 ol
      generalize ((WF.setCell ⟨w.heap.size, 0, none⟩ (.int .i64 (L.length : Int))).setCell ⟨w.heap.size, 1, none⟩ (.slice va V.length vc)).setCell ⟨w.heap.size, 2, none⟩ (.slice (some ⟨gx, 0, none⟩) 2 cap) = W9 at *
      refine bodyPost_ret (v := .tuple #[.agg #[.int .i64 (L.length : Int), .slice va V.length vc, .slice (some ⟨gx, 0, none⟩) 2 cap], .slice la L.length lc, .int .i64 0]) ?_ rfl ?_
      · rw [results_cell_two rfl]
        go_simp
      · rw [HAA.out]
        exact ⟨va, some ⟨gx, 0, none⟩, vc, cap, rfl, hkm, hEx⟩
end Wt
