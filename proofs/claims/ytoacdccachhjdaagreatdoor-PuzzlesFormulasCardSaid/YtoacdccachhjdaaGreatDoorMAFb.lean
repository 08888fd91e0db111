/- Walks: wittingref05.Unary and Binary of what is no formula; wittingref32.not, know, Whether, all. -/
import Derived.Test.YtoacdccachhjdaaGreatDoorMAFa
import Derived.Test.YtoacdccachhjdaaGreatDoorMACb
import Derived.Test.YtoacdccachhjdaaGreatDoorMACc
import Derived.Test.YtoacdccachhjdaaGreatDoorMACa
namespace Wt
open Go Go.RowKit Go.Maps Go.Proofs Fm

theorem fB_canonY {x : Nd} {os : List (List Nd)} (h : fCheck (fB x os) = 0) : fCompact (fB x os) = fB x os := by
  by_cases c : ((os.any fun o => fCheck o != 0) || nodeErr (bX x os os.length) (bF os os.length).length != 0 || decide (200 < fsize (bT x os))) = true
  · have e : fB x os = [] := if_pos c
    rw [e] at h
    exact absurd h (by decide)
  · have e : fB x os = canon (bT x os) := if_neg c
    simp only [Bool.or_eq_true, not_or, bne_iff_ne, ne_eq, Decidable.not_not] at c
    have hw : Wf (bF os os.length ++ [bX x os os.length]) := (bF_wf os os.length).snoc c.1.2
    have hk : fok (bT x os) := fok_trAt hw _ _ (Nat.lt_succ_self _) (by simp)
    rw [e] at h ⊢
    rw [(fCompact_of h).1, trAt_canon _ hk]
/-- Nothing. -/
def RetO (e : Ending) (w w' : World) : Prop := e = .returned (.slice none 0 0) ∧ Ext w w'
set_option maxRecDepth 20000 in
set_option maxHeartbeats 2000000 in
theorem r5Unary_bad (o i e q : Int) (fa : Option Addr) (fc : Nat) (f : List Nd) (w : World) (hf : RN w fa f) (h : fCheck f ≠ 0) :
    Calls Tryz.prog 131 #[.agg #[.int .i64 o, .int .i64 i, .int .i64 e, .int .i64 q, .int .i64 0, .int .i64 0], .slice fa f.length fc] w fun en w' => RetO en w w' := by
  have hq : (fCheck f != 0) = true := by simpa using h
  have HF := Lib.hid hf
  generalize hfe : fCheck f = er at *
  have HCK := Lib.hid hfe
  clear hf h hfe
  have hE0 : Ext w (w.alloc (.cells #[.int .i64 o, .int .i64 i, .int .i64 e, .int .i64 q, .int .i64 0, .int .i64 0] 109)) := (Ext.refl w).alloc _
  have HE := Lib.hid hE0
  clear hE0
  go_enter Tryz.func131, Tryz.ntmps131
  go_wp2_with fail
  refine (r5Check_any fa fc f _ (HF.out.ext HE.out)).mono ?_
  rintro _ w1 ⟨rfl, hE1⟩
  rw [HCK.out]
  dsimp only
  go_wp2_with fail
  go_ret
  exact ⟨rfl, HE.out.trans hE1⟩
set_option maxRecDepth 20000 in
set_option maxHeartbeats 2000000 in
theorem r5Binary_bad (o i e q : Int) (fa : Option Addr) (fc : Nat) (f : List Nd) (v : Value) (w : World) (hf : RN w fa f) (h : fCheck f ≠ 0) :
    Calls Tryz.prog 84 #[.agg #[.int .i64 o, .int .i64 i, .int .i64 e, .int .i64 q, .int .i64 0, .int .i64 0], .slice fa f.length fc, v] w fun en w' => RetO en w w' := by
  have hq : (fCheck f != 0) = true := by simpa using h
  have HF := Lib.hid hf
  generalize hfe : fCheck f = er at *
  have HCK := Lib.hid hfe
  clear hf h hfe
  have hE0 : Ext w (w.alloc (.cells #[.int .i64 o, .int .i64 i, .int .i64 e, .int .i64 q, .int .i64 0, .int .i64 0] 109)) := (Ext.refl w).alloc _
  have HE := Lib.hid hE0
  clear hE0
  go_enter Tryz.func84, Tryz.ntmps84
  go_wp2_with fail
  refine (r5Check_any fa fc f _ (HF.out.ext HE.out)).mono ?_
  rintro _ w1 ⟨rfl, hE1⟩
  rw [HCK.out]
  dsimp only
  go_wp2_with fail
  go_ret
  exact ⟨rfl, HE.out.trans hE1⟩
set_option maxHeartbeats 1000000 in
theorem r32not_any (fa : Option Addr) (fc : Nat) (f : List Nd) (a : Fm) (w : World) (hf : RN w fa f) (h : IsF f a) (hs : fsize a + 1 ≤ 200) :
    Calls Tryz.prog 86 #[.slice fa f.length fc] w fun en w' => RetNF (ccNot f) en w w' := by
  have hs2 := Nat.le_trans (fsize_un (a := a) 4 0 0 0) hs
  have HU := Lib.hid (r5Unary_any 4 0 0 0 fa fc f a w hf h (fok_not h.fk) hs2)
  rw [← fB_un h (fok_not h.fk) hs2] at HU
  clear hf h hs hs2
  go_enter Tryz.func86, Tryz.ntmps86
  go_wp2_with (go_at_call 131; refine HU.out.mono ?_; rintro _ w1 ⟨a1, c1, rfl, h1, hf1, hE1⟩)
  go_ret
  exact ⟨a1, c1, rfl, h1, hf1, hE1⟩
set_option maxHeartbeats 1000000 in
theorem r32not_bad (fa : Option Addr) (fc : Nat) (f : List Nd) (w : World) (hf : RN w fa f) (h : fCheck f ≠ 0) :
    Calls Tryz.prog 86 #[.slice fa f.length fc] w fun en w' => RetO en w w' := by
  have HU := Lib.hid (r5Unary_bad 4 0 0 0 fa fc f w hf h)
  clear hf h
  go_enter Tryz.func86, Tryz.ntmps86
  go_wp2_with (go_at_call 131; refine HU.out.mono ?_; rintro _ w1 ⟨rfl, hE1⟩)
  go_ret
  exact ⟨rfl, hE1⟩
set_option maxHeartbeats 1000000 in
theorem r32know_any (i : Nat) (hi : i < 4) (fa : Option Addr) (fc : Nat) (f : List Nd) (a : Fm) (w : World) (hf : RN w fa f) (h : IsF f a) (hs : fsize a + 1 ≤ 200) :
    Calls Tryz.prog 85 #[.int .i64 (i : Int), .slice fa f.length fc] w fun en w' => RetNF (ccKnow (i : Int) f) en w w' := by
  have hs2 := Nat.le_trans (fsize_un (a := a) 9 i 0 0) hs
  have HU := Lib.hid (r5Unary_any 9 i 0 0 fa fc f a w hf h (fok_know i hi h.fk) hs2)
  rw [← fB_un h (fok_know i hi h.fk) hs2] at HU
  clear hf h hs hs2
  go_enter Tryz.func85, Tryz.ntmps85
  go_wp2_with (go_at_call 131; refine HU.out.mono ?_; rintro _ w1 ⟨a1, c1, rfl, h1, hf1, hE1⟩)
  go_ret
  exact ⟨a1, c1, rfl, h1, hf1, hE1⟩
set_option maxHeartbeats 1000000 in
theorem r32know_bad (i : Nat) (fa : Option Addr) (fc : Nat) (f : List Nd) (w : World) (hf : RN w fa f) (h : fCheck f ≠ 0) :
    Calls Tryz.prog 85 #[.int .i64 (i : Int), .slice fa f.length fc] w fun en w' => RetO en w w' := by
  have HU := Lib.hid (r5Unary_bad 9 i 0 0 fa fc f w hf h)
  clear hf h
  go_enter Tryz.func85, Tryz.ntmps85
  go_wp2_with (go_at_call 131; refine HU.out.mono ?_; rintro _ w1 ⟨rfl, hE1⟩)
  go_ret
  exact ⟨rfl, hE1⟩
theorem isF_knowY {i : Nat} (hi : i < 4) {f : List Nd} {a : Fm} (h : IsF f a) (hs : fsize a + 1 ≤ 200) : IsF (ccKnow (i : Int) f) (.un 9 i 0 0 a) := isF_un h (fok_know i hi h.fk) (Nat.le_trans (fsize_un 9 i 0 0) hs)
theorem isF_notY {f : List Nd} {a : Fm} (h : IsF f a) (hs : fsize a + 1 ≤ 200) : IsF (ccNot f) (.un 4 0 0 0 a) := isF_un h (fok_not h.fk) (Nat.le_trans (fsize_un 4 0 0 0) hs)
theorem isF_whY {i : Nat} (hi : i < 4) {f : List Nd} {a : Fm} (h : IsF f a) (hs : 2 * fsize a + 4 ≤ 200) : IsF (whF (i : Int) f) (.bin 6 0 0 0 (.un 9 i 0 0 a) (.un 9 i 0 0 (.un 4 0 0 0 a))) ∧ fsize (.bin 6 0 0 0 (.un 9 i 0 0 a) (.un 9 i 0 0 (.un 4 0 0 0 a))) ≤ 2 * fsize a + 4 := by
  have h1 := fsize_un (a := a) 9 i 0 0
  have h2 := fsize_un (a := a) 4 0 0 0
  have h3 := fsize_un (a := .un 4 0 0 0 a) 9 i 0 0
  have h4 := fsize_bin (a := .un 9 i 0 0 a) (b := .un 9 i 0 0 (.un 4 0 0 0 a)) 6 0 0 0
  have hk := isF_knowY hi h (by omega)
  have hn := isF_knowY hi (isF_notY h (by omega)) (by omega)
  exact ⟨isF_bin hk hn (fok_or hk.fk hn.fk) (by omega) rfl, by omega⟩
theorem IsF.neY {f : List Nd} {a : Fm} (h : IsF f a) : f ≠ [] := fun e => by
  have h2 := h.1
  rw [e] at h2
  exact absurd h2 (by decide)
theorem fB_bad1 {x : Nd} {f : List Nd} (h : fCheck f ≠ 0) : fB x [f] = [] := by
  unfold fB
  rw [if_pos (by simp [h])]
theorem whF_bad {a : Int} {f : List Nd} (h : fCheck f ≠ 0) : whF a f = [] := by
  have h1 : ccKnow a f = [] := fB_bad1 h
  show fB _ [ccKnow a f, _] = []
  rw [h1]
  unfold fB
  rw [if_pos (by
    simp only [List.any_cons, Bool.or_eq_true, bne_iff_ne]
    exact .inl (.inl (.inl (by decide))))]
set_option maxRecDepth 20000 in
set_option maxHeartbeats 4000000 in
theorem r32whether_any (a : Int) (fa : Option Addr) (fc : Nat) (f : List Nd) (w : World) (hf : RN w fa f) (h60 : f.length ≤ 60) :
    Calls Tryz.prog 38 #[.int .i64 a, .slice fa f.length fc] w fun e w' => RetNFe (whG a f) (whE a f) e w w' := by
  by_cases c0 : a < 0
  · have d0 : decide (a < 0) = true := decide_eq_true c0
    have HN : Hid (whE a f = 2) := Lib.hid (if_pos (.inl c0))
    have HG : Hid (whG a f = []) := Lib.hid (if_neg (by rw [HN.out]; decide))
    clear c0
    go_enter Tryz.func38, Tryz.ntmps38
    go_wp2_with fail
    go_ret2
    rw [HN.out, HG.out]
    exact ⟨none, 0, rfl, RN.nil _ _, (fun _ _ h => by cases h), Ext.refl _⟩
  have d0 : decide (a < 0) = false := decide_eq_false c0
  by_cases c1 : 4 ≤ a
  · have d1 : decide ((4 : Int) ≤ a) = true := decide_eq_true c1
    have HN : Hid (whE a f = 2) := Lib.hid (if_pos (.inr c1))
    have HG : Hid (whG a f = []) := Lib.hid (if_neg (by rw [HN.out]; decide))
    clear c0 c1
    go_enter Tryz.func38, Tryz.ntmps38
    go_wp2_with fail
    go_ret2
    rw [HN.out, HG.out]
    exact ⟨none, 0, rfl, RN.nil _ _, (fun _ _ h => by cases h), Ext.refl _⟩
  have d1 : decide ((4 : Int) ≤ a) = false := decide_eq_false c1
  obtain ⟨i, rfl⟩ : ∃ i : Nat, a = (i : Int) := ⟨a.toNat, by omega⟩
  have hi : i < 4 := by omega
  have hE : whE (i : Int) f = if whF (i : Int) f = [] then 3 else 0 := if_neg (by omega)
  have HF := Lib.hid hf
  by_cases hck : fCheck f = 0
  · have hF : IsF f (rt f) := IsF.of hck
    have hsz := hF.sz
    have hne := (isF_whY hi hF (by omega)).1.neY
    have HN : Hid (whE (i : Int) f = 0) := Lib.hid (by rw [hE, if_neg hne])
    have HG : Hid (whG (i : Int) f = whF (i : Int) f) := Lib.hid (if_pos HN.out)
    have hk := isF_knowY hi hF (by omega)
    have hno := isF_notY hF (by omega)
    have h2 := fsize_un (a := rt f) 4 0 0 0
    have h1 := fsize_un (a := rt f) 9 i 0 0
    have h3 := fsize_un (a := .un 4 0 0 0 (rt f)) 9 i 0 0
    have h4 := fsize_bin (a := .un 9 i 0 0 (rt f)) (b := .un 9 i 0 0 (.un 4 0 0 0 (rt f))) 6 0 0 0
    have hkn := isF_knowY hi hno (by omega)
    have HK1 : Hid (∀ W, RN W fa f → Calls Tryz.prog 85 #[.int .i64 (i : Int), .slice fa f.length fc] W fun en w' => RetNF (ccKnow (i : Int) f) en W w') := Lib.hid fun W h => r32know_any i hi fa fc f _ W h hF (by omega)
    have HN1 : Hid (∀ W, RN W fa f → Calls Tryz.prog 86 #[.slice fa f.length fc] W fun en w' => RetNF (ccNot f) en W w') := Lib.hid fun W h => r32not_any fa fc f _ W h hF (by omega)
    have HK2 : Hid (∀ W p c, RN W p (ccNot f) → Calls Tryz.prog 85 #[.int .i64 (i : Int), .slice p (ccNot f).length c] W fun en w' => RetNF (ccKnow (i : Int) (ccNot f)) en W w') := Lib.hid fun W p c h => r32know_any i hi p c _ _ W h hno (by omega)
    have HBN : Hid (∀ W p c q d, RN W p (ccKnow (i : Int) f) → RN W q (ccKnow (i : Int) (ccNot f)) → Calls Tryz.prog 84 #[.agg #[.int .i64 6, .int .i64 0, .int .i64 0, .int .i64 0, .int .i64 0, .int .i64 0], .slice p (ccKnow (i : Int) f).length c, .slice q (ccKnow (i : Int) (ccNot f)).length d] W fun en w' => RetNF (whF (i : Int) f) en W w') := Lib.hid fun W p c q d g1 g2 => by
      have h9 := r5Binary_any 6 0 0 0 p c _ q d _ _ _ W g1 g2 hk hkn (fok_or hk.fk hkn.fk) rfl (by omega)
      rw [← fB_bin hk hkn (fok_or hk.fk hkn.fk) (by omega) rfl] at h9
      exact h9
    have hl0 : (((whF (i : Int) f).length : Int) == 0) = false := by
      have : (whF (i : Int) f).length ≠ 0 := fun e => hne (List.eq_nil_of_length_eq_zero e)
      rw [beq_eq_false_iff_ne]; omega
    generalize ccKnow (i : Int) (ccNot f) = KN at *
    generalize ccKnow (i : Int) f = KF at *
    generalize ccNot f = NF at *
    clear hf hE hck hF hsz hne hk hno hkn h1 h2 h3 h4 c0 c1
    go_enter Tryz.func38, Tryz.ntmps38
    go_wp2_with fail
    refine (HK1.out _ HF.out).mono ?_
    rintro _ w1 ⟨a1, c1, rfl, g1, -, hE1⟩
    dsimp only
    go_wp2_with fail
    refine (HN1.out _ (HF.out.ext hE1)).mono ?_
    rintro _ w2 ⟨a2, c2, rfl, g2, -, hE2⟩
    dsimp only
    go_wp2_with fail
    refine (HK2.out _ _ _ g2).mono ?_
    rintro _ w3 ⟨a3, c3, rfl, g3, -, hE3⟩
    dsimp only
    go_wp2_with fail
    refine (HBN.out _ _ _ _ _ (g1.ext (hE2.trans hE3)) g3).mono ?_
    rintro _ w4 ⟨a4, c4, rfl, g4, hf4, hE4⟩
    dsimp only
    have hsz : w.heap.size ≤ w3.heap.size := (hE1.trans (hE2.trans hE3)).size
    have HE4 := Lib.hid (hE1.trans (hE2.trans (hE3.trans hE4)))
    have HF4 := Lib.hid (hf4.monoZ hsz)
    have HG4 := Lib.hid g4
    clear g1 g2 g3 g4 hf4 hE1 hE2 hE3 hE4 hsz
    go_wp2_with fail
    go_ret2
    rw [HN.out, HG.out]
    exact ⟨a4, c4, rfl, HG4.out, HF4.out, HE4.out⟩
  · have hwf := whF_bad (a := (i : Int)) hck
    have HN : Hid (whE (i : Int) f = 3) := Lib.hid (by rw [hE, if_pos hwf])
    have HG : Hid (whG (i : Int) f = []) := Lib.hid (if_neg (by rw [HN.out]; decide))
    have HCK := Lib.hid hck
    clear hf hE hck hwf c0 c1
    go_enter Tryz.func38, Tryz.ntmps38
    go_wp2_with fail
    refine (r32know_bad i fa fc f w HF.out HCK.out).mono ?_
    rintro _ w1 ⟨rfl, hE1⟩
    dsimp only
    go_wp2_with fail
    refine (r32not_bad fa fc f w1 (HF.out.ext hE1) HCK.out).mono ?_
    rintro _ w2 ⟨rfl, hE2⟩
    dsimp only
    go_wp2_with fail
    refine (r32know_bad i none 0 [] w2 (RN.nil _ _) (by decide)).mono ?_
    rintro _ w3 ⟨rfl, hE3⟩
    dsimp only
    go_wp2_with fail
    refine (r5Binary_bad 6 0 0 0 none 0 [] (.slice none 0 0) w3 (RN.nil _ _) (by decide)).mono ?_
    rintro _ w4 ⟨rfl, hE4⟩
    dsimp only
    have HE4 := Lib.hid (hE1.trans (hE2.trans (hE3.trans hE4)))
    clear hE1 hE2 hE3 hE4
    go_wp2_with fail
    go_ret2
    rw [HN.out, HG.out]
    exact ⟨none, 0, rfl, RN.nil _ _, (fun _ _ h => by cases h), HE4.out⟩
set_option maxRecDepth 20000 in
set_option maxHeartbeats 4000000 in
theorem r32all_any (oa : Option Addr) (oc : Nat) (L : List (List Nd)) (c : Nat) (w : World) (hr : RNN w oa L) (h0 : 0 < L.length) (hok : ∀ i, i < L.length → ∃ t, IsF (nth L i) t ∧ fsize t ≤ c) (hc : fCompact (nth L 0) = nth L 0) (hb : L.length * (c + 1) ≤ 200) :
    Calls Tryz.prog 87 #[.slice oa L.length oc] w fun e w' => ∃ a p, e = .returned (.slice a (allTo L L.length).length p) ∧ RN w' a (allTo L L.length) ∧ Ext w w' := by
  have HR := Lib.hid hr
  have HOK := Lib.hid hok
  have hl0 : ((L.length : Int) == 0) = false := by rw [beq_eq_false_iff_ne]; omega
  obtain ⟨b, off, a0, c0, rfl, hb0, hc0, hr0⟩ := hr.get 0 h0
  rw [Nat.add_zero] at hc0
  have hll := hr.len
  have HR0 : Hid (RN w a0 (allTo L 1)) := Lib.hid (by show RN w a0 (fCompact (nth L 0)); rw [hc]; exact hr0)
  have hln : (nth L 0).length = (allTo L 1).length := by show _ = (fCompact (nth L 0)).length; rw [hc]
  rw [hln] at hc0
  have HF0 : Hid (∃ t, IsF (allTo L 1) t ∧ fsize t ≤ 1 * (c + 1)) := Lib.hid (by
    obtain ⟨t, h1, h2⟩ := hok 0 h0
    exact ⟨t, by show IsF (fCompact (nth L 0)) t; rw [hc]; exact h1, by omega⟩)
  have HB := Lib.hid hb
  clear hr hok hr0 hln hc hb
  go_enter Tryz.func87, Tryz.ntmps87
  go_wp2_with fail
  go_loopw [3, 4] (fun v i wr => ∃ k : Nat, 1 ≤ k ∧ k ≤ L.length ∧ i = .int .i64 (k : Int) ∧ Hid (∃ a p, v = .slice a (allTo L k).length p ∧ RN wr a (allTo L k) ∧ (∃ t, IsF (allTo L k) t ∧ fsize t ≤ k * (c + 1)) ∧ Ext w wr)) (fun _ i _ => L.length + 1 - (RowKit.intOf i).toNat)
  case atStart => exact ⟨1, Nat.le_refl _, h0, rfl, Lib.hid ⟨a0, c0, rfl, HR0.out, HF0.out, Ext.refl _⟩⟩
  case round =>
    obtain ⟨k, h1k, hk, rfl, HV⟩ := hrel
    obtain ⟨a, p, rfl, hra, ht, hX⟩ := HV.out
    have HRA := Lib.hid hra
    have HT := Lib.hid ht
    have HX := Lib.hid hX
    clear HV hra ht hX
    by_cases hkl : k < L.length
    · obtain ⟨b2, off2, a2, c2, he, hb2, hc2, hr2⟩ := (HR.out.ext HX.out).get k hkl
      cases he
      obtain ⟨m, rfl⟩ : ∃ m, k = m + 1 := ⟨k - 1, by omega⟩
      have HST : Hid (allTo L (m + 2) = ccAnd (allTo L (m + 1)) (nth L (m + 1))) := Lib.hid rfl
      obtain ⟨t, ht1, ht2⟩ := HT.out
      obtain ⟨s, hs1, hs2⟩ := HOK.out (m + 1) hkl
      have hmul : (m + 2) * (c + 1) = (m + 1) * (c + 1) + (c + 1) := by rw [show m + 2 = (m + 1) + 1 from rfl, Nat.succ_mul]
      have hmle : (m + 2) * (c + 1) ≤ L.length * (c + 1) := Nat.mul_le_mul_right _ (by omega)
      have hbs := HB.out
      have hfs := fsize_bin (a := t) (b := s) 5 0 0 0
      have HBN : Hid (∀ W q d, RN W a (allTo L (m + 1)) → RN W q (nth L (m + 1)) → Calls Tryz.prog 84 #[.agg #[.int .i64 5, .int .i64 0, .int .i64 0, .int .i64 0, .int .i64 0, .int .i64 0], .slice a (allTo L (m + 1)).length p, .slice q (nth L (m + 1)).length d] W fun en w' => RetNF (allTo L (m + 2)) en W w') := Lib.hid fun W q d g1 g2 => by
        have h9 := r5Binary_any 5 0 0 0 a p _ q d _ _ _ W g1 g2 ht1 hs1 (fok_and ht1.fk hs1.fk) rfl (by omega)
        rw [← fB_bin ht1 hs1 (fok_and ht1.fk hs1.fk) (by omega) rfl] at h9
        exact h9
      have HT2 : Hid (∃ t, IsF (allTo L (m + 2)) t ∧ fsize t ≤ (m + 2) * (c + 1)) := Lib.hid ⟨_, isF_bin ht1 hs1 (fok_and ht1.fk hs1.fk) (by omega) rfl, by omega⟩
      have HR2 := Lib.hid hr2
      clear hr2 ht1 ht2 hs1 hs2 hmul hmle hbs hfs HST HT
      generalize nth L (m + 1) = g at *
      generalize allTo L (m + 1) = G at *
      obtain ⟨A2, hA2⟩ : ∃ A2, A2 = allTo L (m + 2) := ⟨_, rfl⟩
      rw [← hA2] at HBN HT2
      have HA2 := Lib.hid hA2
      clear hA2
      go_wp2_with fail
      refine (HBN.out _ _ _ HRA.out HR2.out).mono ?_
      rintro _ w4 ⟨a4, c4, rfl, g4, -, hE4⟩
      dsimp only
      have HG4 := Lib.hid g4
      have HE4 := Lib.hid hE4
      clear g4 hE4
      go_wp2_with fail
      go_roundw
      case rel => exact ⟨m + 2, by omega, hkl, by go_num, Lib.hid ⟨a4, c4, by rw [← HA2.out], by rw [← HA2.out]; exact HG4.out, by rw [← HA2.out]; exact HT2.out, HX.out.trans HE4.out⟩⟩
      case measure => simp [RowKit.intOf]; omega
    · obtain rfl : k = L.length := by omega
      obtain ⟨A2, hA2⟩ : ∃ A2, A2 = allTo L L.length := ⟨_, rfl⟩
      rw [← hA2] at HRA ⊢
      have HA2 := Lib.hid hA2
      clear hA2
      go_wp2_with fail
      go_ret
      rw [← HA2.out]
      exact ⟨a, p, rfl, HRA.out, HX.out⟩
end Wt

/- Walks: wittingref32.numbers, Silence, Learned, Value; puzzles.Value; their results at any ints (printed by gen_yr.py). -/
namespace Wt
open Go Go.RowKit Go.Maps Go.Proofs Fm

set_option maxHeartbeats 2000000 in
theorem r32numbers_bool (f n : Int) (w : World) : Calls Tryz.prog 88 #[.int .i64 f, .int .i64 n] w fun e w' => e = .returned (.bool (placesB f n)) ∧ w = w' := by
  by_cases c0 : 0 ≤ f
  rotate_left
  · have HN : Hid (placesB f n = false) := Lib.hid (decide_eq_false fun h => c0 (by omega))
    have d0 : decide ((0 : Int) ≤ f) = false := decide_eq_false c0
    clear c0
    go_enter Tryz.func88, Tryz.ntmps88
    go_wp2_with fail
    go_ret
    exact ⟨by rw [HN.out]; rfl, rfl⟩
  have d0 : decide ((0 : Int) ≤ f) = true := decide_eq_true c0
  by_cases c1 : f < 8
  rotate_left
  · have HN : Hid (placesB f n = false) := Lib.hid (decide_eq_false fun h => c1 (by omega))
    have d1 : decide (f ≤ (7 : Int)) = false := decide_eq_false (by omega)
    clear c0 c1
    go_enter Tryz.func88, Tryz.ntmps88
    go_wp2_with fail
    go_ret
    exact ⟨by rw [HN.out]; rfl, rfl⟩
  have d1 : decide (f ≤ (7 : Int)) = true := decide_eq_true (by omega)
  by_cases c2 : 1 ≤ n
  rotate_left
  · have HN : Hid (placesB f n = false) := Lib.hid (decide_eq_false fun h => c2 (by omega))
    have d2 : decide ((1 : Int) ≤ n) = false := decide_eq_false c2
    clear c0 c1 c2
    go_enter Tryz.func88, Tryz.ntmps88
    go_wp2_with fail
    go_ret
    exact ⟨by rw [HN.out]; rfl, rfl⟩
  have d2 : decide ((1 : Int) ≤ n) = true := decide_eq_true c2
  by_cases c3 : n ≤ 8
  rotate_left
  · have HN : Hid (placesB f n = false) := Lib.hid (decide_eq_false fun h => c3 (by omega))
    have d3 : decide (n ≤ 8) = false := decide_eq_false c3
    clear c0 c1 c2 c3
    go_enter Tryz.func88, Tryz.ntmps88
    go_wp2_with fail
    go_ret
    exact ⟨by rw [HN.out]; rfl, rfl⟩
  have d3 : decide (n ≤ 8) = true := decide_eq_true c3
  by_cases c4 : f + n ≤ 8
  rotate_left
  · have HN : Hid (placesB f n = false) := Lib.hid (decide_eq_false fun h => c4 (by omega))
    have d4 : decide (f + n ≤ 8) = false := decide_eq_false c4
    clear c4
    go_enter Tryz.func88, Tryz.ntmps88
    go_wp2_with fail
    go_ret
    exact ⟨by rw [HN.out]; rfl, rfl⟩
  have d4 : decide (f + n ≤ 8) = true := decide_eq_true c4
  have HN : Hid (placesB f n = true) := Lib.hid (decide_eq_true ⟨c0, c1, c2, c3, c4⟩)
  go_enter Tryz.func88, Tryz.ntmps88
  go_wp2_with fail
  go_ret
  exact ⟨by rw [HN.out]; rfl, rfl⟩
theorem fok_factY {i : Nat} (h : i < 8) : fok (.leaf 3 (i : Int) 0 0) := ⟨rfl, rfl, by simp [needless, useOf], by simp [wide, useOf, outs]; omega⟩
theorem fsize_leafY (o i e q : Int) : fsize (.leaf o i e q) ≤ 1 := by simp [fsize, addT, put]
theorem isF_factY {i : Nat} (h : i < 8) : IsF (ccFact (i : Int)) (.leaf 3 (i : Int) 0 0) ∧ ccFact (i : Int) = [⟨3, (i : Int), 0, 0, 0, 0⟩] := by
  have e := (ccFact_one ⟨i, h⟩).1
  dsimp only at e
  have h1 : fsize (.leaf 3 (i : Int) 0 0) ≤ 1 := fsize_leafY _ _ _ _
  have hc : canon (.leaf 3 (i : Int) 0 0) = [⟨3, (i : Int), 0, 0, 0, 0⟩] := rfl
  refine ⟨?_, e⟩
  rw [e, ← hc]
  exact IsF.mk' (fok_factY h) (by omega)
theorem rn_oneY (w : World) {i : Nat} (h : i < 8) (T : Nat) : RN (w.alloc (.cells #[.int .i64 3, .int .i64 (i : Int), .int .i64 0, .int .i64 0, .int .i64 0, .int .i64 0] T)) (some ⟨w.heap.size, 0, none⟩) (ccFact (i : Int)) := by
  rw [(isF_factY h).2]
  refine ⟨by simp, fun k hk => ?_⟩
  obtain rfl : k = 0 := by simp at hk; omega
  exact ⟨w.heap.size, 0, rfl, by simp [nth], by simp [nth], by simp [nth], by simp [nth], by simp [nth], by simp [nth]⟩
theorem fB_cz {x : Nd} {os : List (List Nd)} {t : Fm} (h : IsF (fB x os) t) : fCompact (fB x os) = fB x os := fB_canonY h.ok
/-- What the lists of formulas are. -/
theorem sil_ok {n i : Nat} (hn : n ≤ 4) (hi : i < n) : ∃ t, IsF (nth (silL n) i) t ∧ fsize t ≤ 7 ∧ fCompact (nth (silL n) i) = nth (silL n) i := by
  have e : nth (silL n) i = ccNot (whF (i : Int) (ccFact (i : Int))) := nth_mapX _ hi
  have hf := (isF_factY (i := i) (by omega)).1
  have hl := fsize_leafY 3 (i : Int) 0 0
  obtain ⟨hw, hs⟩ := isF_whY (i := i) (by omega) hf (by omega)
  have h4 := fsize_un (a := .bin 6 0 0 0 (.un 9 i 0 0 (.leaf 3 (i : Int) 0 0)) (.un 9 i 0 0 (.un 4 0 0 0 (.leaf 3 (i : Int) 0 0)))) 4 0 0 0
  have hno := isF_notY hw (by omega)
  rw [e]
  exact ⟨_, hno, by omega, fB_cz hno⟩
theorem lea_ok {a f n i : Nat} (ha : a < 4) (hf8 : f + n ≤ 8) (hi : i < n) : ∃ t, IsF (nth (leaL a f n) i) t ∧ fsize t ≤ 7 ∧ fCompact (nth (leaL a f n) i) = nth (leaL a f n) i := by
  have e : nth (leaL a f n) i = whF (a : Int) (ccFact ((f + i : Nat) : Int)) := nth_mapX _ hi
  have hf := (isF_factY (i := f + i) (by omega)).1
  have hl := fsize_leafY 3 ((f + i : Nat) : Int) 0 0
  obtain ⟨hw, hs⟩ := isF_whY (i := a) ha hf (by omega)
  rw [e]
  exact ⟨_, hw, by omega, fB_cz hw⟩
theorem val_ok {f v n i : Nat} (hf8 : f + n ≤ 8) (hi : i < n) : ∃ t, IsF (nth (valL f v n) i) t ∧ fsize t ≤ 7 ∧ fCompact (nth (valL f v n) i) = nth (valL f v n) i := by
  have e : nth (valL f v n) i = valE f v i := nth_mapX _ hi
  have hf := (isF_factY (i := f + i) (by omega)).1
  have hl := fsize_leafY 3 ((f + i : Nat) : Int) 0 0
  have h4 := fsize_un (a := .leaf 3 ((f + i : Nat) : Int) 0 0) 4 0 0 0
  have hno := isF_notY hf (by omega)
  rw [e]
  unfold valE
  cases v.testBit i
  · rw [if_neg (by decide)]
    exact ⟨_, hno, by omega, fB_cz hno⟩
  · rw [if_pos rfl]
    exact ⟨_, hf, by omega, fB_cz hf⟩
theorem val_head {f v n : Nat} (h : 1 ≤ n) (hf8 : f + n ≤ 8) : fCheck (nth (valL f v n) 0) = 0 := by
  obtain ⟨t, h1, -⟩ := val_ok (v := v) hf8 (show 0 < n by omega)
  exact h1.ok
set_option maxRecDepth 20000 in
set_option maxHeartbeats 8000000 in
theorem r32silence_any (n : Nat) (hn : 1 ≤ n ∧ n ≤ 4) (w : World) :
    Calls Tryz.prog 40 #[.int .i64 (n : Int)] w fun e w' => RetNzZ (allTo (silL n) (silL n).length) e w w' := by
  have hn4 := hn.2
  have hn1 := hn.1
  have d0 : decide ((n : Int) < 1) = false := decide_eq_false (by omega)
  have d1 : decide ((4 : Int) < (n : Int)) = false := decide_eq_false (by omega)
  obtain ⟨i0, hi1, hz0, hz1, hz2⟩ := info_parts sn_infoZ
  go_enter Tryz.func40, Tryz.ntmps40
  go_wp2_with fail
  go_loopw [4, 5] (fun v ix wr => ∃ k : Nat, k ≤ n ∧ ix = .int .i64 (k : Int) ∧ Hid (FKV w (silL k) v wr)) (fun _ ix _ => n - (RowKit.intOf ix).toNat)
  case atStart => exact ⟨0, Nat.zero_le _, rfl, Lib.hid ⟨_, FK.nil w⟩⟩
  case round =>
    obtain ⟨k, hk, rfl, HFZ⟩ := hrel
    by_cases hlk : k < n
    · obtain ⟨svs, hsk⟩ := HFZ.out
      have hsz0 : w.heap.size ≤ wr.heap.size := hsk.e.size
      have hlen : (silL k).length = k := silL_len _
      have hsl : svs.length ≤ 8 := by rw [hsk.len, hlen]; omega
      have HPA : Hid (∀ W2, Ext wr W2 → FK w (silL k) svs u4 W2) := Lib.hid fun W2 e => hsk.ext' e
      have HGB : Hid (∀ q, u4.ownBlock = some q → q < wr.heap.size) := Lib.hid fun q hq => (hsk.own.lt q hq).2
      have HSTEP := Lib.hid (silL_step k)
      have HONE : Hid (∀ (a : Option Addr) (x y : Nat), ∀ u ∈ [Value.slice a x y], u.oneCell' = true) := Lib.hid fun a x y u hu => by
        rw [List.mem_singleton.1 hu]; rfl
      have hk8 : k < 8 := by omega
      have hfa := isF_factY hk8
      have hle := fsize_leafY 3 (k : Int) 0 0
      obtain ⟨hwi, hws⟩ := isF_whY (i := k) (by omega) hfa.1 (by omega)
      have hl1 : (ccFact (k : Int)).length = 1 := by rw [hfa.2]; rfl
      have HWE := Lib.hid (wh_ok (show k < 4 by omega) hk8).1
      have HWG := Lib.hid (wh_ok (show k < 4 by omega) hk8).2
      have HWH : Hid (∀ W a c, RN W a (ccFact (k : Int)) → Calls Tryz.prog 38 #[.int .i64 (k : Int), .slice a 1 c] W fun e w' => RetNFe (whF (k : Int) (ccFact (k : Int))) 0 e W w') := Lib.hid fun W a c h => by
        have h1 := r32whether_any (k : Int) a c (ccFact (k : Int)) W h (by omega)
        rw [HWE.out, HWG.out, hl1] at h1; exact h1
      have HNO : Hid (∀ W a c, RN W a (whF (k : Int) (ccFact (k : Int))) → Calls Tryz.prog 86 #[.slice a (whF (k : Int) (ccFact (k : Int))).length c] W fun e w' => RetNF (ccNot (whF (k : Int) (ccFact (k : Int)))) e W w') := Lib.hid fun W a c h => r32not_any a c _ _ W h hwi (by omega)
      have HRN := Lib.hid (rn_oneY wr hk8 109)
      generalize ccNot (whF (k : Int) (ccFact (k : Int))) = NA at *
      generalize whF (k : Int) (ccFact (k : Int)) = WF at *
      generalize ccFact (k : Int) = FA at *
      generalize silL k = L at *
      clear hsk hlen hfa hle hwi hws hl1 HWE HWG
      go_wp2_with fail
      refine (HWH.out _ _ _ HRN.out).mono ?_
      rintro _ w4 ⟨a4, c4, rfl, h4, -, hE4⟩
      dsimp only
      have hE34 : Ext wr w4 := ((Ext.refl wr).alloc _).trans hE4
      have HE34 := Lib.hid hE34
      clear hE34 hE4
      go_wp2_with fail
      refine (HNO.out _ _ _ h4).mono ?_
      rintro _ w6 ⟨a6, c6, rfl, h6, hf6, hE6⟩
      dsimp only
      have hE36 : Ext wr w6 := HE34.out.trans hE6
      have hf6 := hf6.monoZ HE34.out.size
      clear h4 hE6
      have HST : Hid (∀ o, StayN u4.ownBlock (w6.alloc o) a6 NA) := Lib.hid fun o => (StayN.new HGB.out h6 hf6).ext ((Ext.refl w6).alloc o)
      have HE36 := Lib.hid hE36
      have hsz6 : w.heap.size ≤ w6.heap.size := Nat.le_trans hsz0 HE36.out.size
      clear h6 hf6 hE36
      go_wp2_with (at_builtin; refine wpList_append_lies _ rfl _ _ 42 rfl w.heap.size 44 i0 _ 1 24 Tryz.underlying42 hi1 hz0 hz1 hz2 rfl (by decide) u4 svs.length svs rfl ((HPA.out _ (HE36.out.alloc _)).own) ⟨w6.heap.size, 0, none⟩ 1 1 [.slice a6 NA.length c6] rfl rfl (cell_one_new _ _ _) (HONE.out _ _ _) (by decide) (by unfold maxLen; omega) (by omega) (Nat.le_trans hsz6 (by simp)) _ rfl ?_; intro gx cap W1 hown hgrow hat hlt2; have hpush := (HPA.out _ (HE36.out.alloc _)).push (l := NA) (c := c6) (HST.out _) hown hgrow hat; have HPU := Lib.hid hpush; clear hpush hown hgrow hat)
      go_roundw
      case rel => exact ⟨k + 1, hlk, by go_num, Lib.hid ⟨_, by rw [HSTEP.out]; exact HPU.out⟩⟩
      case measure => simp [RowKit.intOf]; omega
    · obtain rfl : k = n := by omega
      obtain ⟨svs, hsk⟩ := HFZ.out
      have hlen : (silL k).length = k := silL_len _
      obtain ⟨sa, sc, hv, hrn, hsc⟩ := hsk.rnnc (by omega) (by omega)
      have HSE := Lib.hid hsk.e
      have HAL := Lib.hid (r32all_any sa sc (silL k) 7 wr hrn (by omega) (fun i hi => by rw [hlen] at hi; obtain ⟨t, h1, h2, -⟩ := sil_ok (n := k) hn.2 hi; exact ⟨t, h1, h2⟩) (by obtain ⟨t, -, -, h3⟩ := sil_ok (n := k) hn.2 (show 0 < k by omega); exact h3) (by omega))
      obtain ⟨L, hLe⟩ : ∃ L, L = silL k := ⟨_, rfl⟩
      rw [← hLe] at HAL hv
      have HLE := Lib.hid hLe
      clear hLe
      subst hv
      clear hsk hrn hlen hsc
      go_wp2_with fail
      refine HAL.out.mono ?_
      rintro _ w2 ⟨a2, c2, rfl, h2, hE2⟩
      dsimp only
      go_wp2_with fail
      go_ret2
      rw [← HLE.out]
      exact ⟨a2, c2, rfl, h2, HSE.out.trans hE2⟩
set_option maxRecDepth 20000 in
set_option maxHeartbeats 8000000 in
theorem r32learned_any (a f n : Nat) (ha : a < 4) (hn : 1 ≤ n) (hf : f + n ≤ 8) (w : World) :
    Calls Tryz.prog 44 #[.int .i64 (a : Int), .int .i64 (f : Int), .int .i64 (n : Int)] w fun e w' => RetNzZ (allTo (leaL a f n) (leaL a f n).length) e w w' := by
  have HPL : Hid (placesB (f : Int) (n : Int) = true) := Lib.hid (decide_eq_true (by omega))
  have d0 : decide ((a : Int) < 0) = false := decide_eq_false (by omega)
  have d1 : decide ((4 : Int) ≤ (a : Int)) = false := decide_eq_false (by omega)
  obtain ⟨i0, hi1, hz0, hz1, hz2⟩ := info_parts sn_infoZ
  go_enter Tryz.func44, Tryz.ntmps44
  go_wp2_with fail
  refine (r32numbers_bool _ _ _).mono ?_
  rintro _ _ ⟨rfl, rfl⟩
  rw [HPL.out]
  dsimp only
  go_wp2_with fail
  go_loopw [8, 9] (fun v ix wr => ∃ k : Nat, k ≤ n ∧ ix = .int .i64 (k : Int) ∧ Hid (FKV w (leaL a f k) v wr)) (fun _ ix _ => n - (RowKit.intOf ix).toNat)
  case atStart => exact ⟨0, Nat.zero_le _, rfl, Lib.hid ⟨_, FK.nil w⟩⟩
  case round =>
    obtain ⟨k, hk, rfl, HFZ⟩ := hrel
    by_cases hlk : k < n
    · obtain ⟨svs, hsk⟩ := HFZ.out
      have hsz0 : w.heap.size ≤ wr.heap.size := hsk.e.size
      have hlen : (leaL a f k).length = k := leaL_len _ _ _
      have hsl : svs.length ≤ 8 := by rw [hsk.len, hlen]; omega
      have HPA : Hid (∀ W2, Ext wr W2 → FK w (leaL a f k) svs u8 W2) := Lib.hid fun W2 e => hsk.ext' e
      have HGB : Hid (∀ q, u8.ownBlock = some q → q < wr.heap.size) := Lib.hid fun q hq => (hsk.own.lt q hq).2
      have HSTEP := Lib.hid (leaL_step a f k)
      have HONE : Hid (∀ (a : Option Addr) (x y : Nat), ∀ u ∈ [Value.slice a x y], u.oneCell' = true) := Lib.hid fun a x y u hu => by
        rw [List.mem_singleton.1 hu]; rfl
      obtain ⟨q, hq⟩ : ∃ q, q = f + k := ⟨_, rfl⟩
      rw [← hq] at HSTEP
      have hq8 : q < 8 := by omega
      have hqI : (f : Int) + (k : Int) = (q : Int) := by omega
      have hfa := isF_factY hq8
      have hl1 : (ccFact (q : Int)).length = 1 := by rw [hfa.2]; rfl
      have HWE := Lib.hid (wh_ok ha hq8).1
      have HWG := Lib.hid (wh_ok ha hq8).2
      have HWH : Hid (∀ W p c, RN W p (ccFact (q : Int)) → Calls Tryz.prog 38 #[.int .i64 (a : Int), .slice p 1 c] W fun e w' => RetNFe (whF (a : Int) (ccFact (q : Int))) 0 e W w') := Lib.hid fun W p c h => by
        have h1 := r32whether_any (a : Int) p c (ccFact (q : Int)) W h (by omega)
        rw [HWE.out, HWG.out, hl1] at h1; exact h1
      have HRN := Lib.hid (rn_oneY wr hq8 109)
      generalize whF (a : Int) (ccFact (q : Int)) = NA at *
      generalize ccFact (q : Int) = FA at *
      generalize leaL a f k = L at *
      clear hsk hlen hfa hl1 HWE HWG hq
      go_wp2_with fail
      refine (HWH.out _ _ _ HRN.out).mono ?_
      rintro _ w6 ⟨a6, c6, rfl, h6, hf6, hE6⟩
      dsimp only
      have hE36 : Ext wr w6 := ((Ext.refl wr).alloc _).trans hE6
      have hf6 := hf6.monoZ ((Ext.refl wr).alloc (.cells #[.int .i64 3, .int .i64 (q : Int), .int .i64 0, .int .i64 0, .int .i64 0, .int .i64 0] 109)).size
      clear hE6
      have HST : Hid (∀ o, StayN u8.ownBlock (w6.alloc o) a6 NA) := Lib.hid fun o => (StayN.new HGB.out h6 hf6).ext ((Ext.refl w6).alloc o)
      have HE36 := Lib.hid hE36
      have hsz6 : w.heap.size ≤ w6.heap.size := Nat.le_trans hsz0 HE36.out.size
      clear h6 hf6 hE36
      go_wp2_with (at_builtin; refine wpList_append_lies _ rfl _ _ 42 rfl w.heap.size 44 i0 _ 1 24 Tryz.underlying42 hi1 hz0 hz1 hz2 rfl (by decide) u8 svs.length svs rfl ((HPA.out _ (HE36.out.alloc _)).own) ⟨w6.heap.size, 0, none⟩ 1 1 [.slice a6 NA.length c6] rfl rfl (cell_one_new _ _ _) (HONE.out _ _ _) (by decide) (by unfold maxLen; omega) (by omega) (Nat.le_trans hsz6 (by simp)) _ rfl ?_; intro gx cap W1 hown hgrow hat hlt2; have hpush := (HPA.out _ (HE36.out.alloc _)).push (l := NA) (c := c6) (HST.out _) hown hgrow hat; have HPU := Lib.hid hpush; clear hpush hown hgrow hat)
      go_roundw
      case rel => exact ⟨k + 1, hlk, by go_num, Lib.hid ⟨_, by rw [HSTEP.out]; exact HPU.out⟩⟩
      case measure => simp [RowKit.intOf]; omega
    · obtain rfl : k = n := by omega
      obtain ⟨svs, hsk⟩ := HFZ.out
      have hlen : (leaL a f k).length = k := leaL_len _ _ _
      obtain ⟨sa, sc, hv, hrn, hsc⟩ := hsk.rnnc (by omega) (by omega)
      have HSE := Lib.hid hsk.e
      have HAL := Lib.hid (r32all_any sa sc (leaL a f k) 7 wr hrn (by omega) (fun i hi => by rw [hlen] at hi; obtain ⟨t, h1, h2, -⟩ := lea_ok (n := k) ha hf hi; exact ⟨t, h1, h2⟩) (by obtain ⟨t, -, -, h3⟩ := lea_ok (n := k) ha hf (show 0 < k by omega); exact h3) (by omega))
      obtain ⟨L, hLe⟩ : ∃ L, L = leaL a f k := ⟨_, rfl⟩
      rw [← hLe] at HAL hv
      have HLE := Lib.hid hLe
      clear hLe
      subst hv
      clear hsk hrn hlen hsc
      go_wp2_with fail
      refine HAL.out.mono ?_
      rintro _ w2 ⟨a2, c2, rfl, h2, hE2⟩
      dsimp only
      go_wp2_with fail
      go_ret2
      rw [← HLE.out]
      exact ⟨a2, c2, rfl, h2, HSE.out.trans hE2⟩
set_option maxRecDepth 20000 in
set_option maxHeartbeats 8000000 in
theorem r32value_any (f n v : Nat) (hn : 1 ≤ n) (hf : f + n ≤ 8) (hv : v < 2 ^ n) (w : World) :
    Calls Tryz.prog 43 #[.int .i64 (f : Int), .int .i64 (n : Int), .int .i64 (v : Int)] w fun e w' => RetNzZ (allTo (valL f v n) (valL f v n).length) e w w' := by
  have HPL : Hid (placesB (f : Int) (n : Int) = true) := Lib.hid (decide_eq_true (by omega))
  obtain ⟨m, hm⟩ : ∃ m, m = 2 ^ n := ⟨_, rfl⟩
  have hp2 : p2 n = (m : Int) := by rw [hm]; rfl
  have hm8 : m ≤ 256 := by
    have : 2 ^ n ≤ 2 ^ 8 := Nat.pow_le_pow_right (by omega) (by omega)
    omega
  have hvm : v < m := by omega
  have d0 : decide ((v : Int) < 0) = false := decide_eq_false (by omega)
  have d1 : decide ((m : Int) ≤ (v : Int)) = false := decide_eq_false (by omega)
  have d2 : decide (m ≤ v) = false := decide_eq_false (by omega)
  have h63 : n < 63 := by omega
  clear hv hm
  obtain ⟨i0, hi1, hz0, hz1, hz2⟩ := info_parts sn_infoZ
  go_enter Tryz.func43, Tryz.ntmps43
  go_wp2_with fail
  refine (r32numbers_bool _ _ _).mono ?_
  rintro _ _ ⟨rfl, rfl⟩
  rw [HPL.out]
  dsimp only
  go_wp2_with fail
  clear hp2
  go_loopw [8, 9] (fun v9 ix wr => ∃ k : Nat, k ≤ n ∧ ix = .int .i64 (k : Int) ∧ Hid (FKV w (valL f v k) v9 wr)) (fun _ ix _ => n - (RowKit.intOf ix).toNat)
  case atStart => exact ⟨0, Nat.zero_le _, rfl, Lib.hid ⟨_, FK.nil w⟩⟩
  case round =>
    obtain ⟨k, hk, rfl, HFZ⟩ := hrel
    by_cases hlk : k < n
    · obtain ⟨svs, hsk⟩ := HFZ.out
      have hsz0 : w.heap.size ≤ wr.heap.size := hsk.e.size
      have hlen : (valL f v k).length = k := valL_len _ _ _
      have hsl : svs.length ≤ 8 := by rw [hsk.len, hlen]; omega
      have HPA : Hid (∀ W2, Ext wr W2 → FK w (valL f v k) svs u8 W2) := Lib.hid fun W2 e => hsk.ext' e
      have HGB : Hid (∀ q, u8.ownBlock = some q → q < wr.heap.size) := Lib.hid fun q hq => (hsk.own.lt q hq).2
      have HSTEP := Lib.hid (valL_step f v k)
      have HONE : Hid (∀ (a : Option Addr) (x y : Nat), ∀ u ∈ [Value.slice a x y], u.oneCell' = true) := Lib.hid fun a x y u hu => by
        rw [List.mem_singleton.1 hu]; rfl
      obtain ⟨q, hq⟩ : ∃ q, q = f + k := ⟨_, rfl⟩
      have hq8 : q < 8 := by omega
      have hqI : (f : Int) + (k : Int) = (q : Int) := by omega
      have hfa := isF_factY hq8
      have hle := fsize_leafY 3 (q : Int) 0 0
      have hl1 : (ccFact (q : Int)).length = 1 := by rw [hfa.2]; rfl
      have HVE : Hid (valE f v k = if v.testBit k = true then ccFact (q : Int) else ccNot (ccFact (q : Int))) := Lib.hid (by unfold valE; rw [hq])
      have HRN := Lib.hid (rn_oneY wr hq8 109)
      have HFR : Hid (Fresh (some ⟨wr.heap.size, 0, none⟩) wr.heap.size) := Lib.hid fun b off e => by cases e; exact Nat.le_refl _
      have HNO : Hid (∀ W p c, RN W p (ccFact (q : Int)) → Calls Tryz.prog 86 #[.slice p 1 c] W fun e w' => RetNF (ccNot (ccFact (q : Int))) e W w') := Lib.hid fun W p c h => by
        have h1 := r32not_any p c _ _ W h hfa.1 (by omega)
        rw [hl1] at h1; exact h1
      generalize ccNot (ccFact (q : Int)) = NF at *
      generalize ccFact (q : Int) = FA at *
      generalize valL f v k = L at *
      obtain ⟨bb, hbb⟩ : ∃ bb, v.testBit k = bb := ⟨_, rfl⟩
      rw [hbb] at HVE
      clear hsk hlen hfa hle hq
      cases bb
      · have hb1 : b01 v k = 0 := by unfold b01; rw [hbb]; rfl
        have hb2 : bits .and .i64 ((v : Int) / 2 ^ k) 1 = 0 := by rw [and_divZ]; exact hb1
        obtain ⟨NA, hNA⟩ : ∃ NA, NA = NF := ⟨_, rfl⟩
        rw [if_neg (by decide)] at HVE
        rw [HVE.out] at HSTEP
        clear hbb
        go_wp2_with fail
        refine (HNO.out _ _ _ HRN.out).mono ?_
        rintro _ w6 ⟨a6, c6, rfl, h6, hf6, hE6⟩
        dsimp only
        have hE36 : Ext wr w6 := ((Ext.refl wr).alloc _).trans hE6
        have hf6 := hf6.monoZ ((Ext.refl wr).alloc (.cells #[.int .i64 3, .int .i64 (q : Int), .int .i64 0, .int .i64 0, .int .i64 0, .int .i64 0] 109)).size
        rw [← hNA] at h6 HSTEP ⊢
        clear hE6 hNA
        have HST : Hid (∀ o, StayN u8.ownBlock (w6.alloc o) a6 NA) := Lib.hid fun o => (StayN.new HGB.out h6 hf6).ext ((Ext.refl w6).alloc o)
        have HE36 := Lib.hid hE36
        have hsz6 : w.heap.size ≤ w6.heap.size := Nat.le_trans hsz0 HE36.out.size
        clear h6 hf6 hE36
        go_wp2_with (at_builtin; refine wpList_append_lies _ rfl _ _ 42 rfl w.heap.size 44 i0 _ 1 24 Tryz.underlying42 hi1 hz0 hz1 hz2 rfl (by decide) u8 svs.length svs rfl ((HPA.out _ (HE36.out.alloc _)).own) ⟨w6.heap.size, 0, none⟩ 1 1 [.slice a6 NA.length c6] rfl rfl (cell_one_new _ _ _) (HONE.out _ _ _) (by decide) (by unfold maxLen; omega) (by omega) (Nat.le_trans hsz6 (by simp)) _ rfl ?_; intro gx cap W1 hown hgrow hat hlt2; have hpush := (HPA.out _ (HE36.out.alloc _)).push (l := NA) (c := c6) (HST.out _) hown hgrow hat; have HPU := Lib.hid hpush; clear hpush hown hgrow hat)
        go_roundw
        case rel => exact ⟨k + 1, hlk, by go_num, Lib.hid ⟨_, by rw [HSTEP.out]; exact HPU.out⟩⟩
        case measure => simp [RowKit.intOf]; omega
      · have hb1 : b01 v k = 1 := by unfold b01; rw [hbb]; rfl
        have hb2 : bits .and .i64 ((v : Int) / 2 ^ k) 1 = 1 := by rw [and_divZ]; exact hb1
        obtain ⟨NA, hNA⟩ : ∃ NA, NA = FA := ⟨_, rfl⟩
        rw [if_pos rfl] at HVE
        rw [HVE.out] at HSTEP
        clear hbb
        have HLN : Hid (NA.length = 1) := Lib.hid (by rw [hNA]; exact hl1)
        have hE6 : Ext wr (wr.alloc (.cells #[.int .i64 3, .int .i64 (q : Int), .int .i64 0, .int .i64 0, .int .i64 0, .int .i64 0] 109)) := (Ext.refl wr).alloc _
        have HE36 := Lib.hid hE6
        have HST : Hid (∀ o, StayN u8.ownBlock ((wr.alloc (.cells #[.int .i64 3, .int .i64 (q : Int), .int .i64 0, .int .i64 0, .int .i64 0, .int .i64 0] 109)).alloc o) (some ⟨wr.heap.size, 0, none⟩) NA) := Lib.hid fun o => (StayN.new HGB.out (by rw [hNA]; exact HRN.out) HFR.out).ext ((Ext.refl _).alloc o)
        rw [← hNA] at HSTEP
        clear hE6 hNA hl1
        go_upto_region 12 with fail
        generalize wr.alloc (.cells #[.int .i64 3, .int .i64 (q : Int), .int .i64 0, .int .i64 0, .int .i64 0, .int .i64 0] 109) = w6 at *
        have hsz6 : w.heap.size ≤ w6.heap.size := Nat.le_trans hsz0 HE36.out.size
        go_wp2_with (at_builtin; refine wpList_append_lies _ rfl _ _ 42 rfl w.heap.size 44 i0 _ 1 24 Tryz.underlying42 hi1 hz0 hz1 hz2 rfl (by decide) u8 svs.length svs rfl ((HPA.out _ (HE36.out.alloc _)).own) ⟨w6.heap.size, 0, none⟩ 1 1 [.slice (some ⟨wr.heap.size, 0, none⟩) 1 1] rfl rfl (cell_one_new _ _ _) (HONE.out _ _ _) (by decide) (by unfold maxLen; omega) (by omega) (Nat.le_trans hsz6 (by simp)) _ rfl ?_; intro gx cap W1 hown hgrow hat hlt2; have hpush := (HPA.out _ (HE36.out.alloc _)).push (l := NA) (c := 1) (HST.out _) (by rw [HLN.out]; exact hown) hgrow hat; have HPU := Lib.hid hpush; clear hpush hown hgrow hat)
        go_roundw
        case rel => exact ⟨k + 1, hlk, by go_num, Lib.hid ⟨_, by rw [HSTEP.out]; exact HPU.out⟩⟩
        case measure => simp [RowKit.intOf]; omega
    · obtain rfl : k = n := by omega
      obtain ⟨svs, hsk⟩ := HFZ.out
      have hlen : (valL f v k).length = k := valL_len _ _ _
      obtain ⟨sa, sc, hv, hrn, hsc⟩ := hsk.rnnc (by omega) (by omega)
      have HSE := Lib.hid hsk.e
      have HAL := Lib.hid (r32all_any sa sc (valL f v k) 7 wr hrn (by omega) (fun i hi => by rw [hlen] at hi; obtain ⟨t, h1, h2, -⟩ := val_ok (n := k) hf hi; exact ⟨t, h1, h2⟩) (by obtain ⟨t, -, -, h3⟩ := val_ok (n := k) hf (show 0 < k by omega); exact h3) (by omega))
      obtain ⟨L, hLe⟩ : ∃ L, L = valL f v k := ⟨_, rfl⟩
      rw [← hLe] at HAL hv
      have HLE := Lib.hid hLe
      clear hLe
      subst hv
      clear hsk hrn hlen hsc
      go_wp2_with fail
      refine HAL.out.mono ?_
      rintro _ w2 ⟨a2, c2, rfl, h2, hE2⟩
      dsimp only
      go_wp2_with fail
      go_ret2
      rw [← HLE.out]
      exact ⟨a2, c2, rfl, h2, HSE.out.trans hE2⟩
set_option maxRecDepth 20000 in
set_option maxHeartbeats 8000000 in
theorem pzvalue_any (f n v : Nat) (hn : 1 ≤ n) (hf : f + n ≤ 8) (hv : v < 2 ^ n) (w : World) :
    Calls Tryz.prog 42 #[.int .i64 (f : Int), .int .i64 (n : Int), .int .i64 (v : Int)] w fun e w' => RetNzZ (allTo (valL f v n) (valL f v n).length) e w w' := by
  have HPL : Hid (placesB (f : Int) (n : Int) = true) := Lib.hid (decide_eq_true (by omega))
  obtain ⟨m, hm⟩ : ∃ m, m = 2 ^ n := ⟨_, rfl⟩
  have hp2 : p2 n = (m : Int) := by rw [hm]; rfl
  have hm8 : m ≤ 256 := by
    have : 2 ^ n ≤ 2 ^ 8 := Nat.pow_le_pow_right (by omega) (by omega)
    omega
  have hvm : v < m := by omega
  have d0 : decide ((v : Int) < 0) = false := decide_eq_false (by omega)
  have d1 : decide ((m : Int) ≤ (v : Int)) = false := decide_eq_false (by omega)
  have d2 : decide (m ≤ v) = false := decide_eq_false (by omega)
  have h63 : n < 63 := by omega
  clear hv hm
  obtain ⟨i0, hi1, hz0, hz1, hz2⟩ := info_parts sn_infoZ
  go_enter Tryz.func42, Tryz.ntmps42
  go_wp2_with fail
  refine (places_any _ _ _).mono ?_
  rintro _ _ ⟨rfl, rfl⟩
  rw [HPL.out]
  dsimp only
  go_wp2_with fail
  clear hp2
  go_loopw [8, 24] (fun v9 ix wr => ∃ k : Nat, k ≤ n ∧ ix = .int .i64 (k : Int) ∧ Hid (FKV w (valL f v k) v9 wr)) (fun _ ix _ => n - (RowKit.intOf ix).toNat)
  case atStart => exact ⟨0, Nat.zero_le _, rfl, Lib.hid ⟨_, FK.nil w⟩⟩
  case round =>
    obtain ⟨k, hk, rfl, HFZ⟩ := hrel
    by_cases hlk : k < n
    · obtain ⟨svs, hsk⟩ := HFZ.out
      have hsz0 : w.heap.size ≤ wr.heap.size := hsk.e.size
      have hlen : (valL f v k).length = k := valL_len _ _ _
      have hsl : svs.length ≤ 8 := by rw [hsk.len, hlen]; omega
      have HPA : Hid (∀ W2, Ext wr W2 → FK w (valL f v k) svs u8 W2) := Lib.hid fun W2 e => hsk.ext' e
      have HGB : Hid (∀ q, u8.ownBlock = some q → q < wr.heap.size) := Lib.hid fun q hq => (hsk.own.lt q hq).2
      have HSTEP := Lib.hid (valL_step f v k)
      have HONE : Hid (∀ (a : Option Addr) (x y : Nat), ∀ u ∈ [Value.slice a x y], u.oneCell' = true) := Lib.hid fun a x y u hu => by
        rw [List.mem_singleton.1 hu]; rfl
      obtain ⟨q, hq⟩ : ∃ q, q = f + k := ⟨_, rfl⟩
      have hq8 : q < 8 := by omega
      have hqI : (f : Int) + (k : Int) = (q : Int) := by omega
      have hfa := isF_factY hq8
      have hle := fsize_leafY 3 (q : Int) 0 0
      have hl1 : (ccFact (q : Int)).length = 1 := by rw [hfa.2]; rfl
      have HVE : Hid (valE f v k = if v.testBit k = true then ccFact (q : Int) else ccNot (ccFact (q : Int))) := Lib.hid (by unfold valE; rw [hq])
      have HFA : Hid (∀ W, Calls Tryz.prog 31 #[.int .i64 (q : Int)] W fun e w' => RetNF (ccFact (q : Int)) e W w') := Lib.hid fun W => cFact_fresh _ W
      have HNO : Hid (∀ W p c, RN W p (ccFact (q : Int)) → Calls Tryz.prog 32 #[.slice p (ccFact (q : Int)).length c] W fun e w' => RetNF (ccNot (ccFact (q : Int))) e W w') := Lib.hid fun W p c h => cNot_freshZ p c _ W h
      clear hl1
      generalize ccNot (ccFact (q : Int)) = NF at *
      generalize ccFact (q : Int) = FA at *
      generalize valL f v k = L at *
      obtain ⟨bb, hbb⟩ : ∃ bb, v.testBit k = bb := ⟨_, rfl⟩
      rw [hbb] at HVE
      clear hsk hlen hfa hle hq
      cases bb
      · have hb1 : b01 v k = 0 := by unfold b01; rw [hbb]; rfl
        have hb2 : bits .and .i64 ((v : Int) / 2 ^ k) 1 = 0 := by rw [and_divZ]; exact hb1
        obtain ⟨NA, hNA⟩ : ∃ NA, NA = NF := ⟨_, rfl⟩
        rw [if_neg (by decide)] at HVE
        rw [HVE.out] at HSTEP
        clear hbb
        go_wp2_with fail
        refine (HFA.out _).mono ?_
        rintro _ w3 ⟨a3, c3, rfl, h3, -, hE3⟩
        dsimp only
        have HE3 := Lib.hid hE3
        have HR3 := Lib.hid h3
        clear hE3 h3
        go_wp2_with fail
        refine (HNO.out _ _ _ HR3.out).mono ?_
        rintro _ w6 ⟨a6, c6, rfl, h6, hf6, hE6⟩
        dsimp only
        have hE36 : Ext wr w6 := HE3.out.trans hE6
        have hf6 := hf6.monoZ HE3.out.size
        rw [← hNA] at h6 HSTEP ⊢
        clear hE6 hNA
        have HST : Hid (∀ o, StayN u8.ownBlock (w6.alloc o) a6 NA) := Lib.hid fun o => (StayN.new HGB.out h6 hf6).ext ((Ext.refl w6).alloc o)
        have HE36 := Lib.hid hE36
        have hsz6 : w.heap.size ≤ w6.heap.size := Nat.le_trans hsz0 HE36.out.size
        clear h6 hf6 hE36
        go_wp2_with (at_builtin; refine wpList_append_lies _ rfl _ _ 42 rfl w.heap.size 44 i0 _ 1 24 Tryz.underlying42 hi1 hz0 hz1 hz2 rfl (by decide) u8 svs.length svs rfl ((HPA.out _ (HE36.out.alloc _)).own) ⟨w6.heap.size, 0, none⟩ 1 1 [.slice a6 NA.length c6] rfl rfl (cell_one_new _ _ _) (HONE.out _ _ _) (by decide) (by unfold maxLen; omega) (by omega) (Nat.le_trans hsz6 (by simp)) _ rfl ?_; intro gx cap W1 hown hgrow hat hlt2; have hpush := (HPA.out _ (HE36.out.alloc _)).push (l := NA) (c := c6) (HST.out _) hown hgrow hat; have HPU := Lib.hid hpush; clear hpush hown hgrow hat)
        go_roundw
        case rel => exact ⟨k + 1, hlk, by go_num, Lib.hid ⟨_, by rw [HSTEP.out]; exact HPU.out⟩⟩
        case measure => simp [RowKit.intOf]; omega
      · have hb1 : b01 v k = 1 := by unfold b01; rw [hbb]; rfl
        have hb2 : bits .and .i64 ((v : Int) / 2 ^ k) 1 = 1 := by rw [and_divZ]; exact hb1
        obtain ⟨NA, hNA⟩ : ∃ NA, NA = FA := ⟨_, rfl⟩
        rw [if_pos rfl] at HVE
        rw [HVE.out] at HSTEP
        clear hbb
        go_wp2_with fail
        refine (HFA.out _).mono ?_
        rintro _ w6 ⟨a6, c6, rfl, h6, hf6, hE6⟩
        dsimp only
        have hE36 : Ext wr w6 := hE6
        rw [← hNA] at h6 HSTEP ⊢
        clear hE6 hNA
        have HST : Hid (∀ o, StayN u8.ownBlock (w6.alloc o) a6 NA) := Lib.hid fun o => (StayN.new HGB.out h6 hf6).ext ((Ext.refl w6).alloc o)
        have HE36 := Lib.hid hE36
        have hsz6 : w.heap.size ≤ w6.heap.size := Nat.le_trans hsz0 HE36.out.size
        clear h6 hf6 hE36
        go_wp2_with (at_builtin; refine wpList_append_lies _ rfl _ _ 42 rfl w.heap.size 44 i0 _ 1 24 Tryz.underlying42 hi1 hz0 hz1 hz2 rfl (by decide) u8 svs.length svs rfl ((HPA.out _ (HE36.out.alloc _)).own) ⟨w6.heap.size, 0, none⟩ 1 1 [.slice a6 NA.length c6] rfl rfl (cell_one_new _ _ _) (HONE.out _ _ _) (by decide) (by unfold maxLen; omega) (by omega) (Nat.le_trans hsz6 (by simp)) _ rfl ?_; intro gx cap W1 hown hgrow hat hlt2; have hpush := (HPA.out _ (HE36.out.alloc _)).push (l := NA) (c := c6) (HST.out _) hown hgrow hat; have HPU := Lib.hid hpush; clear hpush hown hgrow hat)
        go_roundw
        case rel => exact ⟨k + 1, hlk, by go_num, Lib.hid ⟨_, by rw [HSTEP.out]; exact HPU.out⟩⟩
        case measure => simp [RowKit.intOf]; omega
    · obtain rfl : k = n := by omega
      obtain ⟨svs, hsk⟩ := HFZ.out
      have hlen : (valL f v k).length = k := valL_len _ _ _
      obtain ⟨sa, sc, hv, hrn, hsc⟩ := hsk.rnnc (by omega) (by omega)
      have HSE := Lib.hid hsk.e
      have HAL := Lib.hid (cAll_any sa sc (valL f v k) wr hrn (by omega) hsc (val_head (by omega) (by omega)))
      obtain ⟨L, hLe⟩ : ∃ L, L = valL f v k := ⟨_, rfl⟩
      rw [← hLe] at HAL hv
      have HLE := Lib.hid hLe
      clear hLe
      subst hv
      clear hsk hrn hlen hsc
      go_wp2_with fail
      refine HAL.out.mono ?_
      rintro _ w2 ⟨a2, c2, rfl, h2, hE2⟩
      dsimp only
      go_wp2_with fail
      go_ret2
      rw [← HLE.out]
      exact ⟨a2, c2, rfl, h2, HSE.out.trans hE2⟩
/-- A formula and an error. -/
def RetNe2 (l : List Nd) (c : Int) (e : Ending) (w w' : World) : Prop := ∃ a p, e = .returned (.tuple #[.slice a l.length p, .int .i64 c]) ∧ RN w' a l ∧ Ext w w'
theorem RetNe2.zero {c : Int} {w w' : World} (h : Ext w w') : RetNe2 [] c (.returned (.tuple #[.slice none 0 0, .int .i64 c])) w w' := ⟨none, 0, rfl, RN.nil _ _, h⟩
theorem RetNzZ.e2 {l : List Nd} {e : Ending} {w w' : World} (h : RetNzZ l e w w') : RetNe2 l 0 e w w' := h
set_option maxHeartbeats 1000000 in
theorem silence_lo (n : Int) (h : n < 1) (w : World) : Calls Tryz.prog 29 #[.int .i64 n] w fun e w' => RetNe2 [] 2 e w w' := by
  have d0 : decide (n < 1) = true := decide_eq_true h
  go_enter Tryz.func29, Tryz.ntmps29
  go_wp2_with fail
  go_ret2
  exact RetNe2.zero (Ext.refl _)
set_option maxHeartbeats 1000000 in
theorem silence_hi (n : Int) (h0 : ¬ n < 1) (h : 4 < n) (w : World) : Calls Tryz.prog 29 #[.int .i64 n] w fun e w' => RetNe2 [] 2 e w w' := by
  have d0 : decide (n < 1) = false := decide_eq_false h0
  have d1 : decide ((4 : Int) < n) = true := decide_eq_true h
  go_enter Tryz.func29, Tryz.ntmps29
  go_wp2_with fail
  go_ret2
  exact RetNe2.zero (Ext.refl _)
set_option maxHeartbeats 1000000 in
theorem learned_pl (a f n : Int) (h : placesB f n = false) (w : World) : Calls Tryz.prog 33 #[.int .i64 a, .int .i64 f, .int .i64 n] w fun e w' => RetNe2 [] 2 e w w' := by
  go_enter Tryz.func33, Tryz.ntmps33
  go_wp2_with fail
  refine (places_any _ _ _).mono ?_
  rintro _ _ ⟨rfl, rfl⟩
  rw [h]
  dsimp only
  go_wp2_with fail
  go_ret2
  exact RetNe2.zero (Ext.refl _)
set_option maxHeartbeats 1000000 in
theorem learned_lo (a f n : Int) (h : placesB f n = true) (h1 : a < 0) (w : World) : Calls Tryz.prog 33 #[.int .i64 a, .int .i64 f, .int .i64 n] w fun e w' => RetNe2 [] 2 e w w' := by
  have d0 : decide (a < 0) = true := decide_eq_true h1
  go_enter Tryz.func33, Tryz.ntmps33
  go_wp2_with fail
  refine (places_any _ _ _).mono ?_
  rintro _ _ ⟨rfl, rfl⟩
  rw [h]
  dsimp only
  go_wp2_with fail
  go_ret2
  exact RetNe2.zero (Ext.refl _)
set_option maxHeartbeats 1000000 in
theorem learned_hi (a f n : Int) (h : placesB f n = true) (h0 : ¬ a < 0) (h1 : 4 ≤ a) (w : World) : Calls Tryz.prog 33 #[.int .i64 a, .int .i64 f, .int .i64 n] w fun e w' => RetNe2 [] 2 e w w' := by
  have d0 : decide (a < 0) = false := decide_eq_false h0
  have d1 : decide ((4 : Int) ≤ a) = true := decide_eq_true h1
  go_enter Tryz.func33, Tryz.ntmps33
  go_wp2_with fail
  refine (places_any _ _ _).mono ?_
  rintro _ _ ⟨rfl, rfl⟩
  rw [h]
  dsimp only
  go_wp2_with fail
  go_ret2
  exact RetNe2.zero (Ext.refl _)
set_option maxHeartbeats 1000000 in
theorem value_pl (f n v : Int) (h : placesB f n = false) (w : World) : Calls Tryz.prog 42 #[.int .i64 f, .int .i64 n, .int .i64 v] w fun e w' => RetNe2 [] 2 e w w' := by
  go_enter Tryz.func42, Tryz.ntmps42
  go_wp2_with fail
  refine (places_any _ _ _).mono ?_
  rintro _ _ ⟨rfl, rfl⟩
  rw [h]
  dsimp only
  go_wp2_with fail
  go_ret2
  exact RetNe2.zero (Ext.refl _)
set_option maxHeartbeats 1000000 in
theorem value_lo (f n v : Int) (h : placesB f n = true) (h1 : v < 0) (w : World) : Calls Tryz.prog 42 #[.int .i64 f, .int .i64 n, .int .i64 v] w fun e w' => RetNe2 [] 1 e w w' := by
  have d0 : decide (v < 0) = true := decide_eq_true h1
  go_enter Tryz.func42, Tryz.ntmps42
  go_wp2_with fail
  refine (places_any _ _ _).mono ?_
  rintro _ _ ⟨rfl, rfl⟩
  rw [h]
  dsimp only
  go_wp2_with fail
  go_ret2
  exact RetNe2.zero (Ext.refl _)
set_option maxHeartbeats 1000000 in
theorem value_hi (f v : Int) (n m : Nat) (h : placesB f (n : Int) = true) (hn : n ≤ 8) (hm : p2 n = (m : Int)) (h0 : ¬ v < 0) (h1 : (m : Int) ≤ v) (w : World) : Calls Tryz.prog 42 #[.int .i64 f, .int .i64 (n : Int), .int .i64 v] w fun e w' => RetNe2 [] 1 e w w' := by
  have d0 : decide (v < 0) = false := decide_eq_false h0
  have d1 : decide ((m : Int) ≤ v) = true := decide_eq_true h1
  have h63 : n < 63 := by omega
  go_enter Tryz.func42, Tryz.ntmps42
  go_wp2_with fail
  refine (places_any _ _ _).mono ?_
  rintro _ _ ⟨rfl, rfl⟩
  rw [h]
  dsimp only
  go_wp2_with fail
  go_ret2
  exact RetNe2.zero (Ext.refl _)
set_option maxHeartbeats 1000000 in
theorem r32silence_lo (n : Int) (h : n < 1) (w : World) : Calls Tryz.prog 40 #[.int .i64 n] w fun e w' => RetNe2 [] 2 e w w' := by
  have d0 : decide (n < 1) = true := decide_eq_true h
  go_enter Tryz.func40, Tryz.ntmps40
  go_wp2_with fail
  go_ret2
  exact RetNe2.zero (Ext.refl _)
set_option maxHeartbeats 1000000 in
theorem r32silence_hi (n : Int) (h0 : ¬ n < 1) (h : 4 < n) (w : World) : Calls Tryz.prog 40 #[.int .i64 n] w fun e w' => RetNe2 [] 2 e w w' := by
  have d0 : decide (n < 1) = false := decide_eq_false h0
  have d1 : decide ((4 : Int) < n) = true := decide_eq_true h
  go_enter Tryz.func40, Tryz.ntmps40
  go_wp2_with fail
  go_ret2
  exact RetNe2.zero (Ext.refl _)
set_option maxHeartbeats 1000000 in
theorem r32learned_pl (a f n : Int) (h : placesB f n = false) (w : World) : Calls Tryz.prog 44 #[.int .i64 a, .int .i64 f, .int .i64 n] w fun e w' => RetNe2 [] 2 e w w' := by
  go_enter Tryz.func44, Tryz.ntmps44
  go_wp2_with fail
  refine (r32numbers_bool _ _ _).mono ?_
  rintro _ _ ⟨rfl, rfl⟩
  rw [h]
  dsimp only
  go_wp2_with fail
  go_ret2
  exact RetNe2.zero (Ext.refl _)
set_option maxHeartbeats 1000000 in
theorem r32learned_lo (a f n : Int) (h : placesB f n = true) (h1 : a < 0) (w : World) : Calls Tryz.prog 44 #[.int .i64 a, .int .i64 f, .int .i64 n] w fun e w' => RetNe2 [] 2 e w w' := by
  have d0 : decide (a < 0) = true := decide_eq_true h1
  go_enter Tryz.func44, Tryz.ntmps44
  go_wp2_with fail
  refine (r32numbers_bool _ _ _).mono ?_
  rintro _ _ ⟨rfl, rfl⟩
  rw [h]
  dsimp only
  go_wp2_with fail
  go_ret2
  exact RetNe2.zero (Ext.refl _)
set_option maxHeartbeats 1000000 in
theorem r32learned_hi (a f n : Int) (h : placesB f n = true) (h0 : ¬ a < 0) (h1 : 4 ≤ a) (w : World) : Calls Tryz.prog 44 #[.int .i64 a, .int .i64 f, .int .i64 n] w fun e w' => RetNe2 [] 2 e w w' := by
  have d0 : decide (a < 0) = false := decide_eq_false h0
  have d1 : decide ((4 : Int) ≤ a) = true := decide_eq_true h1
  go_enter Tryz.func44, Tryz.ntmps44
  go_wp2_with fail
  refine (r32numbers_bool _ _ _).mono ?_
  rintro _ _ ⟨rfl, rfl⟩
  rw [h]
  dsimp only
  go_wp2_with fail
  go_ret2
  exact RetNe2.zero (Ext.refl _)
set_option maxHeartbeats 1000000 in
theorem r32value_pl (f n v : Int) (h : placesB f n = false) (w : World) : Calls Tryz.prog 43 #[.int .i64 f, .int .i64 n, .int .i64 v] w fun e w' => RetNe2 [] 2 e w w' := by
  go_enter Tryz.func43, Tryz.ntmps43
  go_wp2_with fail
  refine (r32numbers_bool _ _ _).mono ?_
  rintro _ _ ⟨rfl, rfl⟩
  rw [h]
  dsimp only
  go_wp2_with fail
  go_ret2
  exact RetNe2.zero (Ext.refl _)
set_option maxHeartbeats 1000000 in
theorem r32value_lo (f n v : Int) (h : placesB f n = true) (h1 : v < 0) (w : World) : Calls Tryz.prog 43 #[.int .i64 f, .int .i64 n, .int .i64 v] w fun e w' => RetNe2 [] 1 e w w' := by
  have d0 : decide (v < 0) = true := decide_eq_true h1
  go_enter Tryz.func43, Tryz.ntmps43
  go_wp2_with fail
  refine (r32numbers_bool _ _ _).mono ?_
  rintro _ _ ⟨rfl, rfl⟩
  rw [h]
  dsimp only
  go_wp2_with fail
  go_ret2
  exact RetNe2.zero (Ext.refl _)
set_option maxHeartbeats 1000000 in
theorem r32value_hi (f v : Int) (n m : Nat) (h : placesB f (n : Int) = true) (hn : n ≤ 8) (hm : p2 n = (m : Int)) (h0 : ¬ v < 0) (h1 : (m : Int) ≤ v) (w : World) : Calls Tryz.prog 43 #[.int .i64 f, .int .i64 (n : Int), .int .i64 v] w fun e w' => RetNe2 [] 1 e w w' := by
  have d0 : decide (v < 0) = false := decide_eq_false h0
  have d1 : decide ((m : Int) ≤ v) = true := decide_eq_true h1
  have h63 : n < 63 := by omega
  go_enter Tryz.func43, Tryz.ntmps43
  go_wp2_with fail
  refine (r32numbers_bool _ _ _).mono ?_
  rintro _ _ ⟨rfl, rfl⟩
  rw [h]
  dsimp only
  go_wp2_with fail
  go_ret2
  exact RetNe2.zero (Ext.refl _)
def siE (n : Int) : Int := if n < 1 ∨ 4 < n then 2 else 0
def siO (n : Int) : List Nd := if n < 1 ∨ 4 < n then [] else allTo (silL n.toNat) (silL n.toNat).length
def leE (a f n : Int) : Int := if placesB f n = false ∨ a < 0 ∨ 4 ≤ a then 2 else 0
def leO (a f n : Int) : List Nd := if placesB f n = false ∨ a < 0 ∨ 4 ≤ a then [] else allTo (leaL a.toNat f.toNat n.toNat) (leaL a.toNat f.toNat n.toNat).length
def vaE (f n v : Int) : Int := if placesB f n = false then 2 else if v < 0 ∨ p2 n.toNat ≤ v then 1 else 0
def vaO (f n v : Int) : List Nd := if placesB f n = false then [] else if v < 0 ∨ p2 n.toNat ≤ v then [] else allTo (valL f.toNat v.toNat n.toNat) (valL f.toNat v.toNat n.toNat).length
theorem places_nat {f n : Int} (h : ¬ placesB f n = false) : ∃ a b : Nat, f = (a : Int) ∧ n = (b : Int) ∧ 1 ≤ b ∧ a + b ≤ 8 := by
  have h2 : placesB f n = true := by
    cases hb : placesB f n
    · exact absurd hb h
    · rfl
  have h3 := of_decide_eq_true h2
  exact ⟨f.toNat, n.toNat, by omega, by omega, by omega, by omega⟩
theorem silence_all (n : Int) (w : World) : Calls Tryz.prog 29 #[.int .i64 n] w fun e w' => RetNe2 (siO n) (siE n) e w w' := by
  unfold siO siE
  by_cases h : n < 1 ∨ 4 < n
  · rw [if_pos h, if_pos h]
    by_cases h1 : n < 1
    · exact silence_lo n h1 w
    · exact silence_hi n h1 (by omega) w
  · rw [if_neg h, if_neg h]
    obtain ⟨k, rfl⟩ : ∃ k : Nat, n = (k : Int) := ⟨n.toNat, by omega⟩
    exact (silence_any k ⟨by omega, by omega⟩ w).mono fun _ _ h => h.e2
theorem learned_all (a f n : Int) (w : World) : Calls Tryz.prog 33 #[.int .i64 a, .int .i64 f, .int .i64 n] w fun e w' => RetNe2 (leO a f n) (leE a f n) e w w' := by
  unfold leO leE
  by_cases hp : placesB f n = false
  · rw [if_pos (.inl hp), if_pos (.inl hp)]
    exact learned_pl a f n hp w
  have hp1 : placesB f n = true := by
    cases hb : placesB f n
    · exact absurd hb hp
    · rfl
  by_cases h1 : a < 0
  · rw [if_pos (.inr (.inl h1)), if_pos (.inr (.inl h1))]
    exact learned_lo a f n hp1 h1 w
  by_cases h2 : 4 ≤ a
  · rw [if_pos (.inr (.inr h2)), if_pos (.inr (.inr h2))]
    exact learned_hi a f n hp1 h1 h2 w
  · have hno : ¬ (placesB f n = false ∨ a < 0 ∨ 4 ≤ a) := fun h => h.elim hp fun h => h.elim h1 h2
    rw [if_neg hno, if_neg hno]
    obtain ⟨x, y, rfl, rfl, hy, hxy⟩ := places_nat hp
    obtain ⟨k, rfl⟩ : ∃ k : Nat, a = (k : Int) := ⟨a.toNat, by omega⟩
    exact (learned_any k x y (by omega) hy hxy w).mono fun _ _ h => h.e2
theorem value_all (f n v : Int) (w : World) : Calls Tryz.prog 42 #[.int .i64 f, .int .i64 n, .int .i64 v] w fun e w' => RetNe2 (vaO f n v) (vaE f n v) e w w' := by
  unfold vaO vaE
  by_cases hp : placesB f n = false
  · rw [if_pos hp, if_pos hp]
    exact value_pl f n v hp w
  have hp1 : placesB f n = true := by
    cases hb : placesB f n
    · exact absurd hb hp
    · rfl
  rw [if_neg hp, if_neg hp]
  obtain ⟨x, y, rfl, rfl, hy, hxy⟩ := places_nat hp
  rw [Int.toNat_natCast, Int.toNat_natCast]
  by_cases h1 : v < 0
  · rw [if_pos (.inl h1), if_pos (.inl h1)]
    exact value_lo _ _ v hp1 h1 w
  by_cases h2 : p2 y ≤ v
  · rw [if_pos (.inr h2), if_pos (.inr h2)]
    exact value_hi _ v y (2 ^ y) hp1 (by omega) rfl h1 h2 w
  · have hno : ¬ (v < 0 ∨ p2 y ≤ v) := fun h => h.elim h1 h2
    rw [if_neg hno, if_neg hno]
    obtain ⟨k, rfl⟩ : ∃ k : Nat, v = (k : Int) := ⟨v.toNat, by omega⟩
    have hk : k < 2 ^ y := by
      unfold p2 at h2
      omega
    exact (pzvalue_any x y k hy hxy hk w).mono fun _ _ h => h.e2
theorem r32silence_all (n : Int) (w : World) : Calls Tryz.prog 40 #[.int .i64 n] w fun e w' => RetNe2 (siO n) (siE n) e w w' := by
  unfold siO siE
  by_cases h : n < 1 ∨ 4 < n
  · rw [if_pos h, if_pos h]
    by_cases h1 : n < 1
    · exact r32silence_lo n h1 w
    · exact r32silence_hi n h1 (by omega) w
  · rw [if_neg h, if_neg h]
    obtain ⟨k, rfl⟩ : ∃ k : Nat, n = (k : Int) := ⟨n.toNat, by omega⟩
    exact (r32silence_any k ⟨by omega, by omega⟩ w).mono fun _ _ h => h.e2
theorem r32learned_all (a f n : Int) (w : World) : Calls Tryz.prog 44 #[.int .i64 a, .int .i64 f, .int .i64 n] w fun e w' => RetNe2 (leO a f n) (leE a f n) e w w' := by
  unfold leO leE
  by_cases hp : placesB f n = false
  · rw [if_pos (.inl hp), if_pos (.inl hp)]
    exact r32learned_pl a f n hp w
  have hp1 : placesB f n = true := by
    cases hb : placesB f n
    · exact absurd hb hp
    · rfl
  by_cases h1 : a < 0
  · rw [if_pos (.inr (.inl h1)), if_pos (.inr (.inl h1))]
    exact r32learned_lo a f n hp1 h1 w
  by_cases h2 : 4 ≤ a
  · rw [if_pos (.inr (.inr h2)), if_pos (.inr (.inr h2))]
    exact r32learned_hi a f n hp1 h1 h2 w
  · have hno : ¬ (placesB f n = false ∨ a < 0 ∨ 4 ≤ a) := fun h => h.elim hp fun h => h.elim h1 h2
    rw [if_neg hno, if_neg hno]
    obtain ⟨x, y, rfl, rfl, hy, hxy⟩ := places_nat hp
    obtain ⟨k, rfl⟩ : ∃ k : Nat, a = (k : Int) := ⟨a.toNat, by omega⟩
    exact (r32learned_any k x y (by omega) hy hxy w).mono fun _ _ h => h.e2
theorem r32value_all (f n v : Int) (w : World) : Calls Tryz.prog 43 #[.int .i64 f, .int .i64 n, .int .i64 v] w fun e w' => RetNe2 (vaO f n v) (vaE f n v) e w w' := by
  unfold vaO vaE
  by_cases hp : placesB f n = false
  · rw [if_pos hp, if_pos hp]
    exact r32value_pl f n v hp w
  have hp1 : placesB f n = true := by
    cases hb : placesB f n
    · exact absurd hb hp
    · rfl
  rw [if_neg hp, if_neg hp]
  obtain ⟨x, y, rfl, rfl, hy, hxy⟩ := places_nat hp
  rw [Int.toNat_natCast, Int.toNat_natCast]
  by_cases h1 : v < 0
  · rw [if_pos (.inl h1), if_pos (.inl h1)]
    exact r32value_lo _ _ v hp1 h1 w
  by_cases h2 : p2 y ≤ v
  · rw [if_pos (.inr h2), if_pos (.inr h2)]
    exact r32value_hi _ v y (2 ^ y) hp1 (by omega) rfl h1 h2 w
  · have hno : ¬ (v < 0 ∨ p2 y ≤ v) := fun h => h.elim h1 h2
    rw [if_neg hno, if_neg hno]
    obtain ⟨k, rfl⟩ : ∃ k : Nat, v = (k : Int) := ⟨v.toNat, by omega⟩
    have hk : k < 2 ^ y := by
      unfold p2 at h2
      omega
    exact (r32value_any x y k hy hxy hk w).mono fun _ _ h => h.e2
end Wt
