/- A list of formulas among the arguments, opened. -/
import Derived.Test.YtoacdccachhjdaaGreatDoorMAAx
import Derived.Test.YtoacdccachhjdaaGreatDoorMACg
import Derived.Test.YtoacdccachhjdaaGreatDoorMAAw
import Derived.Test.YtoacdccachhjdaaGreatDoorMAEh
import Derived.Test.YtoacdccachhjdaaGreatDoorMACh
import Derived.Test.YtoacdccachhjdaaGreatDoorMAAv
import Derived.Test.YtoacdccachhjdaaGreatDoorRows
import Derived.Test.YtoacdccachhjdaaGreatDoorCards
import Derived.Test.YtoacdccachhjdaaGreatDoorTie
import Derived.ProofKit
import Derived.LaidMore
import Derived.SizedLaws
import Derived.SevenTiedAt
namespace Wt
open Go Go.ChangeShapes Go.WideShapes Go.ChangeAt Go.RowKit Go.Deep Go.Proofs Fm
section
variable {H : Type} {enc : TypeId × Value → H} {w : World}
/-- A list of formulas. -/
theorem open_rnn {fuel : Nat} {cs : List Value} {x : DataW H × List MemPlace} (h : DataW.trod enc Tryz.prog w 0 (fun _ => true) true fuel 42 cs = some x) (hz : ∀ n ∈ x.1.weights Tryz.prog 42, n ≤ reachBytes) :
    ∃ a l c, cs = [.slice a (l : List (List Nd)).length c] ∧ RNN w a l := by
  rcases open_slice1 Tryz.underlying42 (by kernel_rfl) h with ⟨rfl, _⟩ | ⟨a, len, cap, m, n, V, D, Pl, rfl, _, hl, hc, hm, hx, hel⟩
  · exact ⟨none, [], 0, rfl, RNN.nil _ _⟩
  · simp only [if_true] at hm
    rw [hx] at hz
    have hr := reach_le
    have hb : Tryz.prog.bytesOf 44 = 24 := by kernel_rfl
    have hlen : len ≤ 140737488355328 := by
      have := hz ((len + (m - len)) * 24) (by simp [DataW.weights, Tryz.underlying42, hb])
      omega
    have hrow : ∀ i, i < len → ∃ (a' : Option Addr) (f : List Nd) (c' : Nat), V i = .slice a' f.length c' ∧ RN w a' f := by
      intro i hi
      obtain ⟨_, h2⟩ := hel i (by omega)
      obtain ⟨a', f, c', he, hf⟩ := open_rn h2 (fun y hy => hz y (by
        simp only [DataW.weights, Tryz.underlying42, List.mem_cons, List.mem_append]
        exact .inr (.inl (mem_weightsAll (d := D i) (List.mem_map.2 ⟨i, by simpa using hi, rfl⟩) hy))))
      simp only [List.cons.injEq, and_true] at he
      exact ⟨a', f, c', he, hf⟩
    obtain ⟨G, hG⟩ : ∃ G : Nat → List Nd, ∀ i, i < len → ∃ (a' : Option Addr) (c' : Nat), V i = .slice a' (G i).length c' ∧ RN w a' (G i) := by
      refine ⟨fun i => if h : i < len then Classical.choose (Classical.choose_spec (hrow i h)) else [], fun i hi => ?_⟩
      simp only [hi, dif_pos]
      obtain ⟨c', h1, h2⟩ := Classical.choose_spec (Classical.choose_spec (hrow i hi))
      exact ⟨_, c', h1, h2⟩
    refine ⟨some a, (List.range len).map G, cap, by simp, ⟨by simpa using hlen, fun k hk => ?_⟩⟩
    have hk' : k < len := by simpa using hk
    have h0 := (hel 0 (by omega)).1
    have ha := spot_of (by simpa [Addr.add] using h0)
    have hn : nth ((List.range len).map G) k = G k := by rw [nth_eq _ _ hk]; simp
    rw [hn]
    obtain ⟨a', c', h1, h2⟩ := hG k hk'
    have hck := (hel k (by omega)).1
    rw [ha, add_at, h1] at hck
    have hlt := World.block_lt_of_cell? w _ hck
    exact ⟨a.block, a.off, a', c', by rw [← ha], hlt, hck, h2⟩
end
end Wt

/- Walk: wittingref32.Play (printed by gen_yp.py out of XZL). -/
namespace Wt
open Go Go.RowKit Go.Maps Go.Proofs Fm

theorem bt_eq0 (X : BitVec 64) {k : Nat} (_h : k < 64) : (un (X >>> k &&& 1#64) == 0) = !bt X k := by
  have e : X >>> k &&& 1#64 = if bt X k = true then 1#64 else 0#64 := by
    apply BitVec.eq_of_getLsbD_eq
    intro i hi
    unfold bt
    by_cases h0 : i = 0
    · subst h0
      cases h : X.getLsbD k <;> simp [h]
    · cases h : X.getLsbD k <;> simp [BitVec.getLsbD_one, h0]
  rw [e]
  cases bt X k
  · simp [un]
  · simp [un]
theorem play_res {A : Mo} {N : Nat} {f : List Nd} (ok : MoOk A N) (h : upErr A f = 0) : resErr A (holdsOf A f) = 0 ∧ resM A (holdsOf A f) = upM A f ∧ resL A (holdsOf A f) = natI (upL A f) ∧ ∀ i j, i < j → j < (upL A f).length → nth (upL A f) i < nth (upL A f) j := by
  obtain ⟨h1, h2⟩ := upErr_ok h
  have hs := holds_in ok f
  have hr : resErr A (holdsOf A f) = 0 := by
    unfold resErr
    rw [if_neg (by simp [ok.check]), if_neg, if_neg h2]
    rw [ok.worlds, Int.toNat_natCast]
    simpa using andNot_zero.2 hs
  refine ⟨hr, ?_, ?_, fun i j hij hj => ?_⟩
  · unfold resM upM; rw [if_pos hr, if_pos h]
  · unfold resL upL; rw [if_pos hr, if_pos h]
  · have hu : upL A f = memL (holdsOf A f) := if_pos h
    rw [hu] at hj ⊢
    have hp := List.pairwise_iff_getElem.1 (memL_asc (holdsOf A f)) i j (by omega) hj hij
    rw [nth_eq _ i (by omega), nth_eq _ j hj]
    exact hp
set_option maxRecDepth 20000 in
set_option maxHeartbeats 16000000 in
theorem r32play_any (M : Mo) (x : Int) (va ra : Option Addr) (vc rc : Nat) (oa : Option Addr) (oc : Nat) (l : List (List Nd)) (w : World) (hm : RM w va ra M) (hl : RNN w oa l) :
    Calls Tryz.prog 25 #[.agg #[.int .i64 M.worlds, .slice va M.val.length vc, .slice ra M.rel.length rc], .int .i64 x, .slice oa l.length oc] w fun e w' => RetTu (playOf M x l) (playErr M x l) e w w' := by
  have hE0 : Ext w (w.alloc (.cells #[.int .i64 M.worlds, .slice va M.val.length vc, .slice ra M.rel.length rc] 28)) := (Ext.refl w).alloc _
  have HOM := Lib.hid (OutAt.new w (.int .i64 M.worlds) (.slice va M.val.length vc) (.slice ra M.rel.length rc) 28)
  have HE := Lib.hid hE0
  have HM := Lib.hid (hm.ext hE0)
  have HL := Lib.hid (hl.ext hE0)
  have HMW := Lib.hid hm
  have hll := hl.len
  have HMC := Lib.hid (r13Check_any M va ra vc rc _ (hm.ext hE0))
  have HN0 : Hid (NowT w.heap.size M va ra vc rc (.slice none 0 0) (w.alloc (.cells #[.int .i64 M.worlds, .slice va M.val.length vc, .slice ra M.rel.length rc] 28))) := Lib.hid ⟨HOM.out, fun g hg => by simp [Value.ownBlock] at hg, fun w'' ha => by
    have hk : ∀ k, k < w.heap.size → w''.heap[k]? = w.heap[k]? := fun k hk => (ha k (by omega) (by simp [Value.ownBlock]) (by simp; omega)).trans (hE0.block k hk)
    exact RM.keepZ hm hk⟩
  have HLW := Lib.hid hl
  clear hm hl hE0
  obtain ⟨m0, m1, m2, -⟩ := HOM.out
  have ml := World.block_lt_of_cell? _ _ m0
  dsimp only at ml
  by_cases h1 : moCheck M = 0
  rotate_left
  · have HN : Hid (playErr M x l = moCheck M) := Lib.hid (if_pos h1)
    have HO : Hid (playOf M x l = []) := Lib.hid (if_neg (by rw [HN.out]; exact h1))
    have hq : (moCheck M != 0) = true := by simpa using h1
    clear h1
    rw [HN.out, HO.out]
    generalize moCheck M = er at *
    go_enter Tryz.func25, Tryz.ntmps25
    go_wp2_with fail
    generalize w.alloc (.cells #[.int .i64 M.worlds, .slice va M.val.length vc, .slice ra M.rel.length rc] 28) = w0 at *
    refine HMC.out.mono ?_
    rintro _ w1 ⟨rfl, hE1⟩
    have HE1 := Lib.hid hE1
    dsimp only
    go_wp2_with fail
    go_ret2
    exact ⟨none, 0, rfl, RTu.nil _ _, HE.out.trans HE1.out⟩
  have hmc := HMC.out
  rw [h1] at hmc
  obtain ⟨N, ok⟩ := moCheck_ok h1
  have HMC := Lib.hid hmc
  have HOK := Lib.hid ok
  have hW := ok.worlds
  have hPE : playErr M x l = if x < 0 ∨ M.worlds ≤ x then 2 else if 100 < l.length then 8 else (playR M x.toNat l).2 := if_neg (by simp [h1])
  clear hmc h1 ok
  by_cases c0 : x < 0
  · have HN : Hid (playErr M x l = 2) := Lib.hid (by rw [hPE, if_pos (.inl c0)])
    have HO : Hid (playOf M x l = []) := Lib.hid (if_neg (by rw [HN.out]; decide))
    have d0 : decide (x < 0) = true := decide_eq_true c0
    clear c0 hPE hW
    rw [HN.out, HO.out]
    go_enter Tryz.func25, Tryz.ntmps25
    go_wp2_with fail
    generalize w.alloc (.cells #[.int .i64 M.worlds, .slice va M.val.length vc, .slice ra M.rel.length rc] 28) = w0 at *
    refine HMC.out.mono ?_
    rintro _ w1 ⟨rfl, hE1⟩
    have HE1 := Lib.hid hE1
    dsimp only
    go_wp2_with fail
    go_ret2
    exact ⟨none, 0, rfl, RTu.nil _ _, HE.out.trans HE1.out⟩
  have d0 : decide (x < 0) = false := decide_eq_false c0
  by_cases c1 : M.worlds ≤ x
  · have HN : Hid (playErr M x l = 2) := Lib.hid (by rw [hPE, if_pos (.inr c1)])
    have HO : Hid (playOf M x l = []) := Lib.hid (if_neg (by rw [HN.out]; decide))
    have d1 : decide (M.worlds ≤ x) = true := decide_eq_true c1
    clear c0 c1 hPE hW
    rw [HN.out, HO.out]
    go_enter Tryz.func25, Tryz.ntmps25
    go_wp2_with fail
    generalize w.alloc (.cells #[.int .i64 M.worlds, .slice va M.val.length vc, .slice ra M.rel.length rc] 28) = w0 at *
    refine HMC.out.mono ?_
    rintro _ w1 ⟨rfl, hE1⟩
    have HE1 := Lib.hid hE1
    clear m0 m1 m2 ml
    obtain ⟨m0, m1, m2, -⟩ := HOM.out.ext HE1.out
    have ml := World.block_lt_of_cell? _ _ m0
    dsimp only at ml ⊢
    go_wp2_with fail
    go_ret2
    exact ⟨none, 0, rfl, RTu.nil _ _, HE.out.trans HE1.out⟩
  have d1 : decide (M.worlds ≤ x) = false := decide_eq_false c1
  by_cases c2 : 100 < l.length
  · have HN : Hid (playErr M x l = 8) := Lib.hid (by rw [hPE, if_neg (by omega), if_pos c2])
    have HO : Hid (playOf M x l = []) := Lib.hid (if_neg (by rw [HN.out]; decide))
    have d2 : decide ((100 : Int) < (l.length : Int)) = true := decide_eq_true (by omega)
    clear c0 c1 c2 hPE hW
    rw [HN.out, HO.out]
    go_enter Tryz.func25, Tryz.ntmps25
    go_wp2_with fail
    generalize w.alloc (.cells #[.int .i64 M.worlds, .slice va M.val.length vc, .slice ra M.rel.length rc] 28) = w0 at *
    refine HMC.out.mono ?_
    rintro _ w1 ⟨rfl, hE1⟩
    have HE1 := Lib.hid hE1
    clear m0 m1 m2 ml
    obtain ⟨m0, m1, m2, -⟩ := HOM.out.ext HE1.out
    have ml := World.block_lt_of_cell? _ _ m0
    dsimp only at ml ⊢
    go_wp2_with fail
    go_ret2
    exact ⟨none, 0, rfl, RTu.nil _ _, HE.out.trans HE1.out⟩
  have d2 : decide ((100 : Int) < (l.length : Int)) = false := decide_eq_false (by omega)
  obtain ⟨y, hy⟩ : ∃ y : Nat, x = (y : Int) := ⟨x.toNat, by omega⟩
  subst hy
  have hyN : y < N := by rw [hW] at c1; omega
  have HN : Hid (playErr M (y : Int) l = (playR M y l).2) := Lib.hid (by rw [hPE, if_neg (by omega), if_neg c2, Int.toNat_natCast])
  have HO : Hid (playOf M (y : Int) l = (playR M y l).1) := Lib.hid (by
    unfold playOf
    by_cases h : playErr M (y : Int) l = 0
    · rw [if_pos h, Int.toNat_natCast]
    · rw [if_neg h]
      rw [HN.out] at h
      exact (playR_err l M y h).symm)
  have HPC : Hid (playC [] (playR M y (l.drop 0)) = playR M y l) := Lib.hid (playC_nil _ (playR_err l M y))
  have hl100 : l.length ≤ 100 := by omega
  rw [HN.out, HO.out]
  obtain ⟨R, hR⟩ : ∃ R, R = playR M y l := ⟨_, rfl⟩
  rw [← hR] at HPC ⊢
  clear c0 c1 c2 hPE hW hR HN HO
  go_enter Tryz.func25, Tryz.ntmps25
  go_wp2_with fail
  generalize w.alloc (.cells #[.int .i64 M.worlds, .slice va M.val.length vc, .slice ra M.rel.length rc] 28) = w0 at *
  refine HMC.out.mono ?_
  rintro _ w1 ⟨rfl, hE1⟩
  have HE1 := Lib.hid hE1
  clear m0 m1 m2 ml hE1
  obtain ⟨m0, m1, m2, -⟩ := HOM.out.ext HE1.out
  have ml := World.block_lt_of_cell? _ _ m0
  dsimp only at ml ⊢
  go_wp2_with fail
  clear m0 m1 m2 ml
  have HX1 : Hid (Ext w w1) := Lib.hid (HE.out.trans HE1.out)
  go_loopw [1, 9, 10] (fun x v i wr => ∃ k : Nat, k ≤ l.length ∧ i = .int .i64 (k : Int) ∧ Hid (PlI w l R k x v wr)) (fun _ _ i _ => l.length + 1 - (RowKit.intOf i).toNat)
  case atStart => exact ⟨0, Nat.zero_le _, rfl, Lib.hid ⟨M, N, y, [], va, ra, vc, rc, rfl, HN0.out.ext HE1.out, HOK.out, hyN, TuV.new _ _, rfl, HPC.out, HX1.out⟩⟩
  case round =>
    obtain ⟨k, hk, rfl, HP⟩ := hrel
    obtain ⟨A, N2, y2, pre, va2, ra2, vc2, rc2, rfl, hN, hok, hy2, hTV, hpl, hR, hX⟩ := HP.out
    obtain ⟨m0, m1, m2, -⟩ := hN.out
    have ml := World.block_lt_of_cell? _ _ m0
    dsimp only at ml
    have HNT := Lib.hid hN
    have HTV := Lib.hid hTV
    have HOK2 := Lib.hid hok
    have HXW := Lib.hid hX
    have HPL := Lib.hid hpl
    clear HP hpl
    by_cases hkl : k < l.length
    · obtain ⟨bl, ol, fa, fc, rfl, hbl, hcl, hf⟩ := (HLW.out.ext hX).get k hkl
      have hfl := hf.len
      rw [drop_nth hkl] at hR
      have HHO : Hid (∀ w', Ext wr w' → Calls Tryz.prog 76 #[.agg #[.int .i64 A.worlds, .slice va2 A.val.length vc2, .slice ra2 A.rel.length rc2], .slice fa (nth l k).length fc] w' fun e w'' => RetP (.int .u64 (un (holdsOf A (nth l k)))) (reqErr A (nth l k)) e w' w'') := Lib.hid fun w' h' => r17Holds_any A va2 ra2 vc2 rc2 fa fc (nth l k) w' (hN.ext h').rm (hf.ext h')
      have HRS : Hid (∀ w', Ext wr w' → Calls Tryz.prog 77 #[.agg #[.int .i64 A.worlds, .slice va2 A.val.length vc2, .slice ra2 A.rel.length rc2], .int .u64 (un (holdsOf A (nth l k)))] w' fun e w'' => RetRO (resM A (holdsOf A (nth l k))) (resL A (holdsOf A (nth l k))) (resErr A (holdsOf A (nth l k))) e w' w'') := Lib.hid fun w' h' => r13Restrict_any A va2 ra2 vc2 rc2 (holdsOf A (nth l k)) w' (hN.ext h').rm
      have HAE : Hid (atErr A (y2 : Int) (nth l k) = reqErr A (nth l k)) := Lib.hid (by
        unfold atErr
        by_cases h : reqErr A (nth l k) = 0
        · have hin : inMo A (y2 : Int) = true := by unfold inMo; rw [hok.worlds]; exact decide_eq_true (by omega)
          rw [if_neg (by simp [h]), hin, if_pos rfl, h]
        · rw [if_pos h])
      have HS0 : Hid (∀ w', Ext wr w' → w'.cell? ⟨w.heap.size, 0, none⟩ = some (.int .i64 A.worlds) ∧ w'.cell? ⟨w.heap.size, 1, none⟩ = some (.slice va2 A.val.length vc2) ∧ w'.cell? ⟨w.heap.size, 2, none⟩ = some (.slice ra2 A.rel.length rc2) ∧ w'.cell? ⟨bl, ol + k, none⟩ = some (.slice fa (nth l k).length fc)) := Lib.hid fun w' h' => by
        obtain ⟨x0, x1, x2, -⟩ := HNT.out.out.ext h'
        exact ⟨x0, x1, x2, h'.cell hcl⟩
      have hy64 : y2 < 64 := Nat.lt_of_lt_of_le hy2 hok.most
      generalize nth l k = f at *
      clear hok hTV hX hf hN
      go_wp2_with fail
      refine wp_region_E 11 (fun w' => w'.cell? ⟨w.heap.size, 0, none⟩ = some (.int .i64 A.worlds) ∧ w'.cell? ⟨w.heap.size, 1, none⟩ = some (.slice va2 A.val.length vc2) ∧ w'.cell? ⟨w.heap.size, 2, none⟩ = some (.slice ra2 A.rel.length rc2) ∧ w'.cell? ⟨bl, ol + k, none⟩ = some (.slice fa f.length fc)) (by kernel_rfl) ?_
      refine wpAnyE_take (i := 0) (v := ?_) (.here) (by kernel_rfl) (fun _ _ _ h => h) (HS0.out _ (Ext.refl _).drew) (by rfl) ?_ ?_
      rotate_left
      focus (intro w hSw; (try dsimp only at hSw); go_simp; try with_reducible rfl)
      try simp only [Act.put, List.setIfInBounds_toArray, List.set_cons_zero, List.set_cons_succ]
      refine wpAnyE_take (i := 1) (v := ?_) (.next (.here)) (by kernel_rfl) (fun _ _ _ h => h) (HS0.out _ (Ext.refl _).drew) (by rfl) ?_ ?_
      rotate_left
      focus (intro w hSw; (try dsimp only at hSw); go_simp; try with_reducible rfl)
      try simp only [Act.put, List.setIfInBounds_toArray, List.set_cons_zero, List.set_cons_succ]
      refine wpAnyE_take (i := 2) (v := ?_) (.next (.next (.here))) (by kernel_rfl) (fun _ _ _ h => h) (HS0.out _ (Ext.refl _).drew) (by rfl) ?_ ?_
      rotate_left
      focus (intro w hSw; (try dsimp only at hSw); go_simp; try with_reducible rfl)
      try simp only [Act.put, List.setIfInBounds_toArray, List.set_cons_zero, List.set_cons_succ]
      refine wpAnyE_take (i := 3) (v := ?_) (.next (.next (.next (.here)))) (by kernel_rfl) (fun _ _ _ h => h) (HS0.out _ (Ext.refl _).drew) (by rfl) ?_ ?_
      rotate_left
      focus (intro w hSw; (try dsimp only at hSw); go_simp; try with_reducible rfl)
      try simp only [Act.put, List.setIfInBounds_toArray, List.set_cons_zero, List.set_cons_succ]
      refine wpAnyE_take (i := 4) (v := ?_) (.next (.next (.next (.next (.here))))) (by kernel_rfl) (fun _ _ _ h => h) (HS0.out _ (Ext.refl _).drew) (by rfl) ?_ ?_
      rotate_left
      focus (intro w hSw; (try dsimp only at hSw); go_simp; try with_reducible rfl)
      try simp only [Act.put, List.setIfInBounds_toArray, List.set_cons_zero, List.set_cons_succ]
      refine wpAnyE_one (k := 5) (.next (.next (.next (.next (.next (.here)))))) (by kernel_rfl) (fun K hK => ?_)
      go_simp
      refine (HHO.out _ (Ext.refl _).drew).mono ?_; rintro _ w2 ⟨rfl, hE2⟩; dsimp only
      refine hK.out _ _ (fun _ => HS0.out _ ((Ext.refl _).drew.trans hE2)) ?_
      clear hK
      try simp only [Act.put, List.setIfInBounds_toArray, List.set_cons_zero, List.set_cons_succ]
      refine wpAnyE_take (i := 6) (v := ?_) (.next (.next (.next (.next (.next (.next (.here))))))) (by kernel_rfl) (fun _ _ _ h => h) (HS0.out _ ((Ext.refl _).drew.trans hE2)) (by rfl) ?_ ?_
      rotate_left
      focus (intro w hSw; (try dsimp only at hSw); go_simp; try with_reducible rfl)
      try simp only [Act.put, List.setIfInBounds_toArray, List.set_cons_zero, List.set_cons_succ]
      refine wpAnyE_take (i := 7) (v := ?_) (.next (.next (.next (.next (.next (.next (.next (.here)))))))) (by kernel_rfl) (fun _ _ _ h => h) (HS0.out _ ((Ext.refl _).drew.trans hE2)) (by rfl) ?_ ?_
      rotate_left
      focus (intro w hSw; (try dsimp only at hSw); go_simp; try with_reducible rfl)
      try simp only [Act.put, List.setIfInBounds_toArray, List.set_cons_zero, List.set_cons_succ]
      refine wpAnyE_take (i := 8) (v := ?_) (.next (.next (.next (.next (.next (.next (.next (.next (.here))))))))) (by kernel_rfl) (fun _ _ _ h => h) (HS0.out _ ((Ext.refl _).drew.trans hE2)) (by rfl) ?_ ?_
      rotate_left
      focus (intro w hSw; (try dsimp only at hSw); go_simp; try with_reducible rfl)
      try simp only [Act.put, List.setIfInBounds_toArray, List.set_cons_zero, List.set_cons_succ]
      refine wpAnyE_one (k := 9) (.next (.next (.next (.next (.next (.next (.next (.next (.next (.here)))))))))) (by kernel_rfl) (fun K hK => ?_)
      go_simp
      refine hK.out _ _ (fun _ => HS0.out _ ((Ext.refl _).drew.trans hE2)) ?_
      clear hK
      try simp only [Act.put, List.setIfInBounds_toArray, List.set_cons_zero, List.set_cons_succ]
      refine wpAnyE_one (k := 10) (.next (.next (.next (.next (.next (.next (.next (.next (.next (.next (.here))))))))))) (by kernel_rfl) (fun K hK => ?_)
      go_simp
      refine hK.out _ _ (fun _ => HS0.out _ ((Ext.refl _).drew.trans hE2)) ?_
      clear hK
      try simp only [Act.put, List.setIfInBounds_toArray, List.set_cons_zero, List.set_cons_succ]
      refine wpAnyE_seq [] (.nil) (by kernel_rfl) (by kernel_rfl) ?_
      have HE2 : Hid (Ext wr w2) := Lib.hid ((Ext.refl _).drew.trans hE2)
      clear hE2 HHO m0 m1 m2 ml hcl hbl
      by_cases hq : reqErr A f = 0
      · have hq1 : (reqErr A f != 0) = false := by simp [hq]
        have haq : atErr A (y2 : Int) f = 0 := by rw [HAE.out, hq]
        have hab : atOf A (y2 : Int) f = bt (holdsOf A f) y2 := by unfold atOf; rw [haq, Int.toNat_natCast]; simp
        cases hb : atOf A (y2 : Int) f
        · have HN : Hid (R = (pre ++ [(false, A.worlds.toNat)], 0)) := Lib.hid (by rw [← hR, playR_no haq hb])
          have HBT : Hid (bt (holdsOf A f) y2 = false) := Lib.hid (by rw [← hab, hb])
          clear hR haq hb hab HAE HRS
          rw [hq]
          obtain ⟨m0, m1, m2, -⟩ := HNT.out.out.ext HE2.out
          have ml := World.block_lt_of_cell? _ _ m0
          dsimp only at ml
          have HTV2 := Lib.hid (HTV.out.ext' HE2.out)
          have hsz1 : w.heap.size + 1 ≤ w2.heap.size := ml
          have hWn := HOK2.out.worlds
          have hpl := HPL.out
          have hpl2 : pre.length < 100 := by omega
          rw [hWn] at m0
          rw [hWn, Int.toNat_natCast] at HN
          have HO : Hid (∀ o, (w2.alloc o).ownsRow (w.heap.size + 1) 60 2 u9 pre.length (rowT pre)) := Lib.hid fun o => (HTV2.out.ext' ((Ext.refl w2).alloc o)).own
          have HPA : Hid (∀ o, TuV (w.heap.size + 1) pre u9 (w2.alloc o)) := Lib.hid fun o => HTV2.out.ext' ((Ext.refl w2).alloc o)
          have HXA : Hid (∀ o, Ext w (w2.alloc o)) := Lib.hid fun o => (HXW.out.trans HE2.out).alloc o
          obtain ⟨i0, hi1, hz0, hz1, hz2⟩ := info_parts turn_info
          have hbt : (un (holdsOf A f >>> y2 &&& 1#64) == 0) = true := by rw [bt_eq0 _ hy64, HBT.out]; rfl
          generalize holdsOf A f = X at *
          clear hWn hpl hq hq1
          go_wp2_with (at_builtin; refine wpList_append_lies _ rfl _ _ 45 rfl (w.heap.size + 1) 60 i0 _ 2 16 Tryz.underlying45 hi1 hz0 hz1 hz2 rfl (by decide) u9 pre.length (rowT pre) rfl (HO.out _) ⟨w2.heap.size, 0, none⟩ 1 1 (tuCells (false, N2)) rfl rfl (turn_news _ _ _ _) (turn_one _) (by decide) (by unfold maxLen; omega) (by omega) (Nat.le_trans hsz1 (by simp)) (w2.heap.size + 1) (by simp) ?_; intro gx cap W1 hown hgrow hat hlt2; have hpush := HTV2.out.push (p := (false, N2)) hown; have hx9 := ext_turn (HPA.out _) (HXA.out _) hgrow; have HPU := Lib.hid hpush; have HX9 := Lib.hid hx9; clear hpush hown hgrow hat hx9)
          go_ret2
          rw [HN.out]
          obtain ⟨a, c, e, hrt⟩ := HPU.out.rt (by simp; omega)
          exact ⟨a, c, by rw [← e]; simp, hrt, HX9.out⟩
        · have haf : afErr A (y2 : Int) f = 0 := by unfold afErr; rw [if_neg (by simp [haq]), if_pos hb]
          obtain ⟨hu, kk, p, hkk, -, hp, hplt, hpn⟩ := afErr_ok haf
          obtain ⟨N3, ok3, hok3, -, -, -, hle3, -⟩ := up_ok hu
          have hkk2 : kk = y2 := by omega
          subst hkk2
          have HRR : Hid (playC (pre ++ [(true, (upL A f).length)]) (playR (upM A f) p (l.drop (k + 1))) = R) := Lib.hid (by
            have h1 := playR_yes haq hb pre (l := l.drop (k + 1))
            rw [hR, hp, hok3.worlds] at h1
            exact h1.symm)
          have HBT : Hid (bt (holdsOf A f) kk = true) := Lib.hid (by rw [← hab, hb])
          obtain ⟨hre, hM, hL, hasc⟩ := play_res HOK2.out hu
          have hrs := HRS.out
          rw [hre, hM, hL] at hrs
          have HRS := Lib.hid hrs
          have HOK3 := Lib.hid hok3
          have HPN := Lib.hid hpn
          have HPT := Lib.hid hplt
          have HASC := Lib.hid hasc
          have HW3 := Lib.hid hok3.worlds
          have HLE : Hid ((upL A f).length ≤ 64) := Lib.hid (Nat.le_trans hle3 ok3.most)
          have hbt : (un (holdsOf A f >>> kk &&& 1#64) == 0) = false := by rw [bt_eq0 _ hy64, HBT.out]; rfl
          clear hR haq hb hab haf hu hkk hp ok3 hok3 hle3 hrs hre hM hL HAE hpn hasc
          rw [hq]
          generalize upM A f = A2 at *
          generalize upL A f = l2 at *
          generalize holdsOf A f = X at *
          obtain ⟨m0, m1, m2, -⟩ := HNT.out.out.ext HE2.out
          have ml := World.block_lt_of_cell? _ _ m0
          have HNT2 := Lib.hid (HNT.out.ext HE2.out)
          have HTV2 := Lib.hid (HTV.out.ext' HE2.out)
          dsimp only at ml
          clear hq hq1
          go_wp2_with fail
          refine (HRS.out _ HE2.out).mono ?_
          rintro _ w3 ⟨va4, ra4, la4, vc4, rc4, lc4, svs4, rfl, hm4, hu4, hE4⟩
          have hnl := natI_len l2
          rw [hnl]
          dsimp only
          have HM4 := Lib.hid hm4
          have HE4 := Lib.hid hE4
          have HU4 := Lib.hid hu4
          clear hm4 hu4 hE4 hnl
          clear m0 m1 m2 ml
          have hnx := OutAt.new w3 (.int .i64 A2.worlds) (.slice va4 A2.val.length vc4) (.slice ra4 A2.rel.length rc4) 28
          have hE6 : Ext w3 (w3.alloc (.cells #[.int .i64 A2.worlds, .slice va4 A2.val.length vc4, .slice ra4 A2.rel.length rc4] 28)) := (Ext.refl _).alloc _
          have HNX := Lib.hid hnx
          have HE6 := Lib.hid hE6
          have HUI : Hid (RI (w3.alloc (.cells #[.int .i64 A2.worlds, .slice va4 A2.val.length vc4, .slice ra4 A2.rel.length rc4] 28)) la4 (natI l2)) := Lib.hid (HU4.out _ fun j _ hj => hE6.block j hj)
          clear hnx hE6
          go_wp2_with fail
          generalize w3.alloc (.cells #[.int .i64 A2.worlds, .slice va4 A2.val.length vc4, .slice ra4 A2.rel.length rc4] 28) = w5 at *
          have hl2 := HLE.out
          go_loop [1, 16] (fun x i => ∃ j : Nat, j ≤ p ∧ i = .int .i64 (j : Int) ∧ x = .int .i64 (kk : Int)) (fun _ i => l2.length - (RowKit.intOf i).toNat)
          case atStart => exact ⟨0, Nat.zero_le _, rfl, rfl⟩
          case round =>
            obtain ⟨j, hj, rfl, rfl⟩ := hrel
            have hjl : j < l2.length := by have := HPT.out; omega
            obtain ⟨b3, o3, rfl, hb3, hc3⟩ := HUI.out.get (k := j) (by rw [natI_len]; exact hjl)
            rw [nth_natI hjl] at hc3
            by_cases hjp : j = p
            · subst hjp
              have hey : nth l2 j = kk := HPN.out
              have heq : (((nth l2 j : Nat) : Int) == (kk : Int)) = true := by rw [hey]; simp
              generalize nth l2 j = z at *
              have hX5 : Ext w w5 := ((HXW.out.trans HE2.out).trans HE4.out).trans HE6.out
              have HX5 := Lib.hid hX5
              obtain ⟨m0, m1, m2, mfz⟩ := HNT2.out.out.ext (HE4.out.trans HE6.out)
              have g0 := mfz 0
              have g1 := mfz 1
              have g2 := mfz 2
              have ml := World.block_lt_of_cell? _ _ m0
              obtain ⟨n0, n1, n2, -⟩ := HNX.out
              have nl := World.block_lt_of_cell? _ _ n0
              have hb0 : w.heap.size < w3.heap.size := (HNT2.out.out.ext HE4.out).lt
              dsimp only at ml nl
              clear mfz hX5 hey
              go_upto_region 24 with fail
              have HNX8 := Lib.hid (HNT2.out.next HE4.out HM4.out HE6.out)
              have HTV8 : Hid (TuV (w.heap.size + 1) pre u9 (((w5.setCell ⟨w.heap.size, 0, none⟩ (.int .i64 A2.worlds)).setCell ⟨w.heap.size, 1, none⟩ (.slice va4 A2.val.length vc4)).setCell ⟨w.heap.size, 2, none⟩ (.slice ra4 A2.rel.length rc4))) := Lib.hid ((((HTV2.out.ext' (HE4.out.trans HE6.out)).set (by omega)).set (by omega)).set (by omega))
              have HXS8 : Hid (Ext w (((w5.setCell ⟨w.heap.size, 0, none⟩ (.int .i64 A2.worlds)).setCell ⟨w.heap.size, 1, none⟩ (.slice va4 A2.val.length vc4)).setCell ⟨w.heap.size, 2, none⟩ (.slice ra4 A2.rel.length rc4))) := Lib.hid (ext_set3z HX5.out (Nat.le_refl _) _ _ _)
              clear m0 m1 m2 ml g0 g1 g2 n0 n1 n2 nl hc3 hb3
              generalize ((w5.setCell ⟨w.heap.size, 0, none⟩ (.int .i64 A2.worlds)).setCell ⟨w.heap.size, 1, none⟩ (.slice va4 A2.val.length vc4)).setCell ⟨w.heap.size, 2, none⟩ (.slice ra4 A2.rel.length rc4) = w8 at *
              obtain ⟨m0, m1, m2, -⟩ := HNX8.out.out
              have ml := World.block_lt_of_cell? _ _ m0
              dsimp only at ml
              have hsz1 : w.heap.size + 1 ≤ w8.heap.size := ml
              have hpl := HPL.out
              have hpl2 : pre.length < 100 := by omega
              have hWn := HW3.out
              rw [hWn] at m0
              have HO : Hid (∀ o, (w8.alloc o).ownsRow (w.heap.size + 1) 60 2 u9 pre.length (rowT pre)) := Lib.hid fun o => (HTV8.out.ext' ((Ext.refl w8).alloc o)).own
              have HPA : Hid (∀ o, TuV (w.heap.size + 1) pre u9 (w8.alloc o)) := Lib.hid fun o => HTV8.out.ext' ((Ext.refl w8).alloc o)
              have HXA : Hid (∀ o, Ext w (w8.alloc o)) := Lib.hid fun o => HXS8.out.alloc o
              have HNA : Hid (∀ o, NowT w.heap.size A2 va4 ra4 vc4 rc4 u9 (w8.alloc o)) := Lib.hid fun o => HNX8.out.ext ((Ext.refl _).alloc o)
              obtain ⟨i0, hi1, hz0, hz1, hz2⟩ := info_parts turn_info
              clear hWn hpl
              go_wp2_with (at_builtin; refine wpList_append_lies _ rfl _ _ 45 rfl (w.heap.size + 1) 60 i0 _ 2 16 Tryz.underlying45 hi1 hz0 hz1 hz2 rfl (by decide) u9 pre.length (rowT pre) rfl (HO.out _) ⟨w8.heap.size, 0, none⟩ 1 1 (tuCells (true, l2.length)) rfl rfl (turn_news _ _ _ _) (turn_one _) (by decide) (by unfold maxLen; omega) (by omega) (Nat.le_trans hsz1 (by simp)) (w8.heap.size + 1) (by simp) ?_; intro gx cap W1 hown hgrow hat hlt2; have hpush := HTV8.out.push (p := (true, l2.length)) hown; have hx9 := ext_turn (HPA.out _) (HXA.out _) hgrow; have hn9 := (HNA.out _).push (n := pre.length + 1) (c := cap) hgrow (by simpa using hat) hlt2; have HPU := Lib.hid hpush; have HX9 := Lib.hid hx9; have HN9 := Lib.hid hn9; clear hpush hown hgrow hat hx9 hn9)
              go_roundw
              case rel => exact ⟨k + 1, hkl, by go_num, Lib.hid ⟨A2, l2.length, j, pre ++ [(true, l2.length)], va4, ra4, vc4, rc4, rfl, HN9.out, HOK3.out, HPT.out, HPU.out, by rw [List.length_append, HPL.out]; rfl, HRR.out, HX9.out⟩⟩
              case measure => simp [RowKit.intOf]; omega
            · have hne : nth l2 j ≠ kk := fun e => by
                have h := HASC.out j p (by omega) HPT.out
                rw [HPN.out] at h
                omega
              have heq : (((nth l2 j : Nat) : Int) == (kk : Int)) = false := by rw [beq_eq_false_iff_ne]; omega
              generalize nth l2 j = z at *
              clear hne
              go_wp2_with fail
              go_round
              case rel => exact ⟨j + 1, by omega, by go_num, rfl⟩
              case measure => simp [RowKit.intOf]; omega
      · have hq1 : (reqErr A f != 0) = true := by simpa using hq
        have HN : Hid (R = ([], reqErr A f)) := Lib.hid (by rw [← hR, playR_bad (by rw [HAE.out]; exact hq), HAE.out])
        clear hR hq HAE HRS
        go_wp2_with fail
        go_ret2
        rw [HN.out]
        exact ⟨none, 0, rfl, RTu.nil _ _, HXW.out.trans HE2.out⟩
    · obtain rfl : k = l.length := by omega
      rw [List.drop_length, show playR A y2 [] = ([], 0) from rfl] at hR
      have HN : Hid (R = (pre, 0)) := Lib.hid (by rw [← hR]; simp [playC])
      clear hR
      have hpl := HPL.out
      obtain ⟨a, c, rfl, hrt⟩ := hTV.rt (by omega)
      rw [hpl]
      go_wp2_with fail
      go_ret2
      rw [HN.out]
      exact ⟨a, c, by rw [hpl]; rfl, hrt, HXW.out⟩
end Wt

/- The walk of PuzzlesPlays (printed by gen_lpl.py). -/
namespace Wt
open Go Go.RowKit Go.Maps Go.Proofs Fm

set_option maxRecDepth 20000 in
set_option maxHeartbeats 8000000 in
theorem puzzlesPlays_any (M : Mo) (va ra : Option Addr) (vc rc : Nat) (x : Int) (oa : Option Addr) (oc : Nat) (l : List (List Nd)) (w : World) (hT : Tab w) (hm : RM w va ra M) (hl : RNN w oa l) :
    Calls Tryz.prog 4 #[.agg #[.int .i64 M.worlds, .slice va M.val.length vc, .slice ra M.rel.length rc], .int .i64 x, .slice oa l.length oc] w fun e w' => e = .returned (.bool true) ∧ Ext w w' := by
  have hE0 : Ext w (w.alloc (.cells #[.int .i64 M.worlds, .slice va M.val.length vc, .slice ra M.rel.length rc] 28)) := (Ext.refl w).alloc _
  have HOM := Lib.hid (OutAt.new w (.int .i64 M.worlds) (.slice va M.val.length vc) (.slice ra M.rel.length rc) 28)
  have HE := Lib.hid hE0
  have HT := Lib.hid (hT.ext hE0)
  have HM := Lib.hid (hm.ext hE0)
  have HL := Lib.hid (hl.ext hE0)
  have hll := hl.len
  clear hE0 hT hm hl
  obtain ⟨m0, m1, m2, -⟩ := HOM.out
  have ml := World.block_lt_of_cell? _ _ m0
  dsimp only at ml
  go_enter Tryz.func4, Tryz.ntmps4
  go_wp2_with fail
  generalize w.alloc (.cells #[.int .i64 M.worlds, .slice va M.val.length vc, .slice ra M.rel.length rc] 28) = w0 at *
  refine (r13Few_any M va ra vc rc 12 _ HM.out).mono ?_
  rintro _ w1 ⟨b, rfl, hE1⟩
  have HE1 := Lib.hid hE1
  clear hE1 m0 m1 m2 ml
  dsimp only
  cases b
  · go_wp2_with fail
    refine (awake32_any _ (HT.out.ext HE1.out)).mono ?_
    rintro _ w9 ⟨rfl, hE9⟩
    dsimp only
    go_wp2_with fail
    go_ret
    exact ⟨rfl, HE.out.trans (HE1.out.trans hE9)⟩
  by_cases c3 : 120 < l.length
  · have d1 : decide ((10 : Int) < (l.length : Int)) = true := decide_eq_true (by omega)
    have d2 : decide ((l.length : Int) ≤ 100) = false := decide_eq_false (by omega)
    have d3 : decide ((120 : Int) < (l.length : Int)) = true := decide_eq_true (by omega)
    go_wp2_with fail
    refine (awake32_any _ (HT.out.ext HE1.out)).mono ?_
    rintro _ w9 ⟨rfl, hE9⟩
    dsimp only
    go_wp2_with fail
    go_ret
    exact ⟨rfl, HE.out.trans (HE1.out.trans hE9)⟩
  have d3 : decide ((120 : Int) < (l.length : Int)) = false := decide_eq_false (by omega)
  by_cases c1 : 10 < l.length
  · have d1 : decide ((10 : Int) < (l.length : Int)) = true := decide_eq_true (by omega)
    by_cases c2 : l.length ≤ 100
    · have d2 : decide ((l.length : Int) ≤ 100) = true := decide_eq_true (by omega)
      go_wp2_with fail
      refine (awake32_any _ (HT.out.ext HE1.out)).mono ?_
      rintro _ w9 ⟨rfl, hE9⟩
      dsimp only
      go_wp2_with fail
      go_ret
      exact ⟨rfl, HE.out.trans (HE1.out.trans hE9)⟩
    · have d2 : decide ((l.length : Int) ≤ 100) = false := decide_eq_false (by omega)
      go_wp2_with fail
      go_loopw [7] (fun i wr => ∃ k : Nat, k ≤ l.length ∧ i = .int .i64 (k : Int) ∧ Hid (Ext w1 wr)) (fun i _ => l.length - (RowKit.intOf i).toNat)
      case atStart => exact ⟨0, Nat.zero_le _, rfl, Lib.hid (Ext.refl _)⟩
      case round =>
        obtain ⟨k, hk, rfl, HX⟩ := hrel
        have HXr := Lib.hid (HE1.out.trans HX.out)
        by_cases hkl : k < l.length
        · obtain ⟨bl, ol, fa, fc, rfl, hbl, hcl, hf⟩ := (HL.out.ext HXr.out).get k hkl
          have hfl := hf.len
          clear hf
          generalize nth l k = f at *
          by_cases h40 : 40 < f.length
          · have d4 : decide ((40 : Int) < (f.length : Int)) = true := decide_eq_true (by omega)
            go_wp2_with fail
            refine (awake32_any _ (HT.out.ext HXr.out)).mono ?_
            rintro _ w9 ⟨rfl, hE9⟩
            dsimp only
            go_wp2_with fail
            go_ret
            exact ⟨rfl, HE.out.trans (HXr.out.trans hE9)⟩
          · have d4 : decide ((40 : Int) < (f.length : Int)) = false := decide_eq_false (by omega)
            go_wp2_with fail
            go_roundw
            case rel => exact ⟨k + 1, hkl, by go_num, HX⟩
            case measure => simp [RowKit.intOf]; omega
        · obtain rfl : k = l.length := by omega
          obtain ⟨m0, m1, m2, -⟩ := HOM.out.ext HXr.out
          have ml := World.block_lt_of_cell? _ _ m0
          dsimp only at ml
          have HP1 := Lib.hid (play_any M x va ra vc rc oa oc l wr (HM.out.ext HXr.out) (HL.out.ext HXr.out) (HT.out.ext HXr.out))
          have HP2 : Hid (∀ W, Ext wr W → Calls Tryz.prog 25 #[.agg #[.int .i64 M.worlds, .slice va M.val.length vc, .slice ra M.rel.length rc], .int .i64 x, .slice oa l.length oc] W fun e w' => RetTu (playOf M x l) (playErr M x l) e W w') := Lib.hid fun W h => r32play_any M x va ra vc rc oa oc l W (HM.out.ext (HXr.out.trans h)) (HL.out.ext (HXr.out.trans h))
          generalize playOf M x l = T at *
          generalize playErr M x l = er at *
          have hee : (er == er) = true := by simp
          go_wp2_with fail
          refine HP1.out.mono ?_
          rintro _ w2 ⟨ta, tc, rfl, ht, hE2⟩
          have HTA := Lib.hid ht
          have HE2 := Lib.hid hE2
          clear ht hE2 m0 m1 m2 ml HP1
          obtain ⟨m0, m1, m2, -⟩ := HOM.out.ext (HXr.out.trans HE2.out)
          have ml := World.block_lt_of_cell? _ _ m0
          dsimp only at ml ⊢
          go_wp2_with fail
          refine (HP2.out _ HE2.out).mono ?_
          rintro _ w3 ⟨sa, sc, rfl, hs, hE3⟩
          have HST := Lib.hid (sameTurns_any ta sa tc sc T w3 (HTA.out.ext hE3) hs)
          have HE3 := Lib.hid hE3
          clear hs hE3 m0 m1 m2 ml
          dsimp only
          go_wp2_with fail
          refine HST.out.mono ?_
          rintro _ w4 ⟨rfl, hE4⟩
          dsimp only
          have HX4 := Lib.hid (HXr.out.trans (HE2.out.trans (HE3.out.trans hE4)))
          clear hE4
          go_wp2_with fail
          refine (awake32_any _ (HT.out.ext HX4.out)).mono ?_
          rintro _ w9 ⟨rfl, hE9⟩
          dsimp only
          go_wp2_with fail
          go_ret
          exact ⟨rfl, HE.out.trans (HX4.out.trans hE9)⟩
  · have d1 : decide ((10 : Int) < (l.length : Int)) = false := decide_eq_false (by omega)
    go_wp2_with fail
    go_loopw [7] (fun i wr => ∃ k : Nat, k ≤ l.length ∧ i = .int .i64 (k : Int) ∧ Hid (Ext w1 wr)) (fun i _ => l.length - (RowKit.intOf i).toNat)
    case atStart => exact ⟨0, Nat.zero_le _, rfl, Lib.hid (Ext.refl _)⟩
    case round =>
      obtain ⟨k, hk, rfl, HX⟩ := hrel
      have HXr := Lib.hid (HE1.out.trans HX.out)
      by_cases hkl : k < l.length
      · obtain ⟨bl, ol, fa, fc, rfl, hbl, hcl, hf⟩ := (HL.out.ext HXr.out).get k hkl
        have hfl := hf.len
        clear hf
        generalize nth l k = f at *
        by_cases h40 : 40 < f.length
        · have d4 : decide ((40 : Int) < (f.length : Int)) = true := decide_eq_true (by omega)
          go_wp2_with fail
          refine (awake32_any _ (HT.out.ext HXr.out)).mono ?_
          rintro _ w9 ⟨rfl, hE9⟩
          dsimp only
          go_wp2_with fail
          go_ret
          exact ⟨rfl, HE.out.trans (HXr.out.trans hE9)⟩
        · have d4 : decide ((40 : Int) < (f.length : Int)) = false := decide_eq_false (by omega)
          go_wp2_with fail
          go_roundw
          case rel => exact ⟨k + 1, hkl, by go_num, HX⟩
          case measure => simp [RowKit.intOf]; omega
      · obtain rfl : k = l.length := by omega
        obtain ⟨m0, m1, m2, -⟩ := HOM.out.ext HXr.out
        have ml := World.block_lt_of_cell? _ _ m0
        dsimp only at ml
        have HP1 := Lib.hid (play_any M x va ra vc rc oa oc l wr (HM.out.ext HXr.out) (HL.out.ext HXr.out) (HT.out.ext HXr.out))
        have HP2 : Hid (∀ W, Ext wr W → Calls Tryz.prog 25 #[.agg #[.int .i64 M.worlds, .slice va M.val.length vc, .slice ra M.rel.length rc], .int .i64 x, .slice oa l.length oc] W fun e w' => RetTu (playOf M x l) (playErr M x l) e W w') := Lib.hid fun W h => r32play_any M x va ra vc rc oa oc l W (HM.out.ext (HXr.out.trans h)) (HL.out.ext (HXr.out.trans h))
        generalize playOf M x l = T at *
        generalize playErr M x l = er at *
        have hee : (er == er) = true := by simp
        go_wp2_with fail
        refine HP1.out.mono ?_
        rintro _ w2 ⟨ta, tc, rfl, ht, hE2⟩
        have HTA := Lib.hid ht
        have HE2 := Lib.hid hE2
        clear ht hE2 m0 m1 m2 ml HP1
        obtain ⟨m0, m1, m2, -⟩ := HOM.out.ext (HXr.out.trans HE2.out)
        have ml := World.block_lt_of_cell? _ _ m0
        dsimp only at ml ⊢
        go_wp2_with fail
        refine (HP2.out _ HE2.out).mono ?_
        rintro _ w3 ⟨sa, sc, rfl, hs, hE3⟩
        have HST := Lib.hid (sameTurns_any ta sa tc sc T w3 (HTA.out.ext hE3) hs)
        have HE3 := Lib.hid hE3
        clear hs hE3 m0 m1 m2 ml
        dsimp only
        go_wp2_with fail
        refine HST.out.mono ?_
        rintro _ w4 ⟨rfl, hE4⟩
        dsimp only
        have HX4 := Lib.hid (HXr.out.trans (HE2.out.trans (HE3.out.trans hE4)))
        clear hE4
        go_wp2_with fail
        refine (awake32_any _ (HT.out.ext HX4.out)).mono ?_
        rintro _ w9 ⟨rfl, hE9⟩
        dsimp only
        go_wp2_with fail
        go_ret
        exact ⟨rfl, HE.out.trans (HX4.out.trans hE9)⟩
end Wt

/- The law PuzzlesPlays returns true at every input, and its arguments read behind the call as they did before. the tied card: the library's table of TrailingZeros64 lies as the program's text lays it. -/
namespace Go.Proofs.YtoacdccachhjdaaGreatDoor
open Go.ChangeShapes Go.WideShapes Go.ChangeAt Go.WideMaps Go.WideElems Go.RowKit

theorem own : ownKnob Tryz.prog.godebug = none := by kernel_rfl
theorem laidOut : laidOutB Tryz.prog = true := by kernel_rfl
theorem door_met (os : Os) (args : Array Value) : laidMetH Tryz.prog [("math/bits.deBruijn64tab", Rows.laid_math_bits_deBruijn64tab)] ((World.doorLaid Tryz.prog 400 os).forCall (fun _ _ => 0) ⟨#[], args, []⟩).memory := by
  rw [MakeChecks.laidMetH_plain _ _ _ (by kernel_rfl)]
  exact laidMet_of_run' 8 (by kernel_rfl) (by kernel_rfl)
set_option maxRecDepth 100000 in
set_option maxHeartbeats 1000000 in
theorem law_lifted (os : Os) (started : os.Started) (H : Type) (enc : TypeId × Value → H) :
    ReturnsInHanded {} Tryz.checked os 4 .any (fun w args => (Rows.puzzlesPlaysSpec.pre enc Tryz.prog Tryz.f4 Rows.puzzlesPlaysRow.domain false w args ∧ laidMetH Tryz.prog [("math/bits.deBruijn64tab", Rows.laid_math_bits_deBruijn64tab)] w) ∧ sizedMet enc Tryz.prog Tryz.f4 (OpenSpec.ofChange Rows.puzzlesPlaysSpec) false w args)
      (Rows.puzzlesPlaysSpec.post enc Tryz.prog Tryz.f4 false true false false) := by
  refine returnsInHanded_of_change_and (C := Tryz.checked) (X := fun w _ => laidMetH Tryz.prog [("math/bits.deBruijn64tab", Rows.laid_math_bits_deBruijn64tab)] w) (fun _ _ _ hh h => h.of_heap hh) own started (by kernel_rfl) Tryz.func4
    (ChangeSpec.witness_shaped (enc := enc) (C := Tryz.checked) (os := os) (X := fun w _ => laidMetH Tryz.prog [("math/bits.deBruijn64tab", Rows.laid_math_bits_deBruijn64tab)] w) false (World.doorLaid Tryz.prog 400 os) #[.agg #[.int .i64 0, .slice none 0 0, .slice none 0 0], .int .i64 0, .slice none 0 0] 8 rfl (World.shaped_of_RefB (by kernel_rfl) (by kernel_rfl)) (by kernel_rfl) (by kernel_rfl) (by kernel_rfl) (door_met os _)) ?_
  intro W base args ds gs before hval0 hW _ hsz0 hL _
  have hT := of_laid hL
  have hval : ∀ (j : Nat) t v, Tryz.f4.params[j]? = some t → args[j]? = some v → Value.okWide Tryz.prog W .any base t v := hval0
  have hsz : (DataW.weightsEach Tryz.prog (Tryz.f4.params.toList ++ Rows.puzzlesPlaysSpec.plain.varTypes Tryz.prog) (ds ++ gs)).all (· ≤ reachBytes) = true := hsz0
  have hW' := hW
  obtain ⟨p, q, hA0, hV, rfl, hfz, hnd⟩ := hW
  have hA : DataW.TrodAll enc Tryz.prog W 0 (fun _ => true) true Tryz.f4.params.toList args.toList ds p := hA0
  rw [Tryz.params4] at hA hval hsz
  obtain ⟨v0, v1, v2, d0, d1, d2, p0, p1, p2, rfl, rfl, rfl, h0, h1, h2⟩ := trodAll_three hA
  obtain ⟨rfl, rfl⟩ := trodVars_none hV
  have hv0 : Rows.puzzlesPlaysSpec.plain.varTypes Tryz.prog = [] := rfl
  rw [hv0] at hsz
  have hz : ∀ n ∈ DataW.weightsEach Tryz.prog [28, 3, 42] [d0, d1, d2], n ≤ reachBytes := fun n hn => by
    have := List.all_eq_true.1 hsz n (by simpa using hn)
    simpa using this
  have k0 := h0
  have k1 := h1
  have k2 := h2
  obtain ⟨M, Mv, Mr, Mvc, Mrc, rfl, hmM⟩ := Wt.open_mo rfl (hval 0 28 v0 rfl rfl) h0 (fun n hn => hz n (DataW.weights_mem_each (j := 0) rfl rfl n hn))
  obtain ⟨x, rfl, rfl, rfl, wx⟩ := open_int Tryz.underlying3 (hval 1 3 v1 rfl rfl) h1
  obtain ⟨la, ll, lc, rfl⟩ := okWide_slice Tryz.underlying42 (hval 2 42 v2 rfl rfl)
  obtain ⟨lu, h2'⟩ := h2
  obtain ⟨la', l, lc', he2, hfl⟩ := Wt.open_rnn h2' (fun n hn => hz n (DataW.weights_mem_each (j := 2) rfl rfl n hn))
  simp [Value.cells] at he2
  obtain ⟨rfl, rfl, rfl⟩ := he2
  have hl0 : ∀ y ∈ p0, y.block < W.heap.size := fun y hy => by simpa using hW'.lt y (by simp [hy])
  have hl2 : ∀ y ∈ p2, y.block < W.heap.size := fun y hy => by simpa using hW'.lt y (by simp [hy])
  refine (Wt.puzzlesPlays_any M Mv Mr Mvc Mrc x la lc l W hT hmM hfl).mono fun e W' he => ?_
  obtain ⟨rfl, hE⟩ := he
  have bel : Below W.heap.size W W' := hE
  refine ⟨_, rfl, ⟨_, _, _, [], p0 ++ ([] ++ (p2)), [], hW', trodAll_mk1 (shut_bool Tryz.underlying4 true), trodAll_mk3 (Below.trod laidOut (by kernel_rfl) (of_decide_eq_true (by kernel_rfl)) k0 bel hl0) (shut_int Tryz.underlying3 wx) (Below.trod laidOut (by kernel_rfl) (of_decide_eq_true (by kernel_rfl)) k2 bel (fun y hy => hl2 y (by simpa using hy))), rfl, bel.frame _, fun h => by cases h⟩⟩
theorem puzzlesPlays_holds : Rows.PuzzlesPlaysSaid :=
  OpenClaim.holds_of_wide 4 Tryz.f4 rfl rfl rfl rfl rfl rfl rfl ⟨rfl, rfl, rfl, rfl, rfl⟩ rfl rfl rfl rfl rfl (by kernel_rfl) Tryz.func4 (by kernel_rfl)
    (of_decide_eq_true (by kernel_rfl)) (by unfold Func.isWrapper; first | (rw [if_pos (by decide +kernel)]; kernel_rfl) | (rw [if_neg (by decide +kernel)]; exact ⟨rfl, rfl⟩))
    (fun os started H enc _ => law_lifted os started H enc)
theorem puzzlesPlays_card_holds : Rows.PuzzlesPlaysCardSaid :=
  Claim7.holds_tied_plain_at .later [] [.data] true Rows.puzzlesPlaysCard.stood.harness false
    puzzlesPlays_holds (fun _ h => by cases h) (by kernel_rfl) (fun _ h => by cases h) puzzlesPlays_row_tie rfl ⟨rfl, rfl⟩ (by kernel_rfl) rfl
    (fun f fn hf hfn => by
      obtain rfl : f = 4 := Option.some.inj ((show Tryz.prog.funcNamed "witting/wittinglaw32.PuzzlesPlays" = some 4 by kernel_rfl).symm.trans hf) |>.symm
      obtain rfl : fn = Tryz.f4 := (Option.some.inj (Tryz.func4.symm.trans hfn)).symm
      exact ⟨by kernel_rfl, fun j t ht => by
        rw [Tryz.params4] at ht
        have hm : t ∈ [28, 3, 42] := by simpa using Array.mem_of_getElem? ht
        have hall : ([28, 3, 42].all fun u => !Tryz.prog.wantsStandIn u) = true := by kernel_rfl
        exact (show Tryz.prog.wantsStandIn t = false by simpa using List.all_eq_true.1 hall t hm)⟩)
    (by kernel_rfl)
#print axioms puzzlesPlays_card_holds
end Go.Proofs.YtoacdccachhjdaaGreatDoor
