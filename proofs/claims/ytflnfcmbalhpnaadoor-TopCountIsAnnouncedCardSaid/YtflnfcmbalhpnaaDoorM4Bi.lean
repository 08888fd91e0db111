/- Walk: slices.ContainsFunc of lists of lists of formulas; what the rounds of observe.Build keep. -/
import Derived.Test.YtflnfcmbalhpnaaDoorM4Bh
import Derived.Test.YtflnfcmbalhpnaaDoorM4Bg
import Derived.Test.YtflnfcmbalhpnaaDoorM4Be
import Derived.Test.YtflnfcmbalhpnaaDoorM4Ao
import Derived.Test.YtflnfcmbalhpnaaDoorM4Bc
namespace Wt
open Go Go.RowKit Go.Maps Go.Proofs Fm

theorem cf_build1 (args : Array Value) (W : World) : (callFunc 49 args).run Tryd.prog W = .ok (.enter 49 args) W := by
  simp [callFunc, Tryd.func49, Tryd.f49]
set_option maxHeartbeats 1000000 in
theorem build1_any (a : Option Addr) (l : List (List Nd)) (c : Nat) (w : World) (hl : l.length ≤ 140737488355328) :
    Calls Tryd.prog 49 #[.slice a l.length c] w fun e w' => e = .returned (.bool (decide (16 < l.length))) ∧ w = w' := by
  have hd : decide ((16 : Int) < (l.length : Int)) = decide (16 < l.length) := by rw [decide_eq_decide]; omega
  have hd2 : decide ((l.length : Int) > 16) = decide (16 < l.length) := by rw [decide_eq_decide]; omega
  have HD := Lib.hid hd
  clear hd hd2
  go_enter Tryd.func49, Tryd.ntmps49
  go_wp2
  go_ret
  exact ⟨by show Ending.returned (.bool (decide ((16 : Int) < (l.length : Int)))) = _; rw [HD.out], rfl⟩
set_option maxHeartbeats 1000000 in
theorem indexFunc_n (a : Option Addr) (l : List (List (List Nd))) (cap : Nat) (w : World) (hr : RNNN w a l) :
    Calls Tryd.prog 67 #[.slice a l.length cap, .func (.func 49) #[] #[]] w fun e w' => (∃ i : Int, e = .returned (.int .i64 i) ∧ decide (0 ≤ i) = l.any fun r => decide (16 < r.length)) ∧ w = w' := by
  have hl := hr.len
  have hF := cf_build1
  go_enter Tryd.func67, Tryd.ntmps67
  go_wp2
  go_loopw [8] (fun i wr => ∃ k : Nat, k ≤ l.length ∧ i = .int .i64 k ∧ w = wr ∧ Hid (∀ j, j < k → decide (16 < (nth l j).length) = false)) (fun i _ => l.length - (intOf i).toNat)
  case atStart => exact ⟨0, Nat.zero_le _, rfl, rfl, fun _ h => absurd h (Nat.not_lt_zero _)⟩
  case round =>
    obtain ⟨k, hk, rfl, rfl, hno⟩ := hrel
    by_cases hlt : k < l.length
    · obtain ⟨b, off, a', c', rfl, hbl, hc, hu⟩ := hr.get k hlt
      have hB := Lib.hid (fun W => build1_any a' (nth l k) c' W hu.len)
      go_wp2_with fail
      refine (hB.out _).mono ?_
      rintro e w1 ⟨rfl, rfl⟩
      cases hb : decide (16 < (nth l k).length)
      all_goals have Hb := Lib.hid hb; clear hb
      · go_wp2
        go_roundw
        case rel => exact ⟨k + 1, hlt, by go_num, trivial, lt_step hno Hb.out⟩
        case measure => simp [intOf]; omega
      · go_wp2
        go_ret
        exact ⟨⟨k, rfl, by rw [any_yes hlt Hb.out]; simp⟩, rfl⟩
    · go_wp2
      go_ret
      exact ⟨⟨-1, rfl, by rw [any_no (fun j hj => hno j (by omega))]; rfl⟩, rfl⟩
set_option maxHeartbeats 1000000 in
theorem containsFunc_n (a : Option Addr) (l : List (List (List Nd))) (cap : Nat) (w : World) (hr : RNNN w a l) :
    Calls Tryd.prog 48 #[.slice a l.length cap, .func (.func 49) #[] #[]] w fun e w' => e = .returned (.bool (l.any fun r => decide (16 < r.length))) ∧ w = w' := by
  have Hi := Lib.hid (indexFunc_n a l cap w hr)
  go_enter Tryd.func48, Tryd.ntmps48
  go_wp2_with (go_at_call 67; refine (Hi.out).mono ?_; rintro e w1 ⟨⟨i, rfl, hi⟩, rfl⟩; have HI := Lib.hid hi; clear hi)
  go_ret
  exact ⟨by rw [← HI.out]; simp, rfl⟩
/-! The errors. -/
theorem tabsErr_at {n : Int} {l : List (List Nd)} : ∀ {j : Nat}, j < l.length → (∀ i, i < j → tabErr (nth l i) n = 0) → tabErr (nth l j) n ≠ 0 → tabsErr n l = tabErr (nth l j) n := by
  induction l with
  | nil => intro j hj; simp at hj
  | cons x l ih =>
    intro j hj h0 h1
    unfold tabsErr
    cases j with
    | zero => exact if_pos h1
    | succ j =>
      have hx : tabErr x n = 0 := h0 0 (by omega)
      rw [if_neg (by simp [hx])]
      exact ih (by simpa using hj) (fun i hi => h0 (i + 1) (by omega)) h1
theorem tabsErr_none {n : Int} {l : List (List Nd)} (h : ∀ i, i < l.length → tabErr (nth l i) n = 0) : tabsErr n l = 0 := by
  induction l with
  | nil => rfl
  | cons x l ih =>
    unfold tabsErr
    have hx : tabErr x n = 0 := h 0 (by simp)
    rw [if_neg (by simp [hx])]
    exact ih fun i hi => h (i + 1) (by simpa using hi)
theorem seenErr_at {n : Int} {L : List (List (List Nd))} : ∀ {a : Nat}, a < L.length → (∀ i, i < a → tabsErr n (nth L i) = 0) → tabsErr n (nth L a) ≠ 0 → seenErr n L = tabsErr n (nth L a) := by
  induction L with
  | nil => intro j hj; simp at hj
  | cons x l ih =>
    intro j hj h0 h1
    unfold seenErr
    cases j with
    | zero => exact if_pos h1
    | succ j =>
      have hx : tabsErr n x = 0 := h0 0 (by omega)
      rw [if_neg (by simp [hx])]
      exact ih (by simpa using hj) (fun i hi => h0 (i + 1) (by omega)) h1
theorem seenErr_none {n : Int} {L : List (List (List Nd))} (h : ∀ i, i < L.length → tabsErr n (nth L i) = 0) : seenErr n L = 0 := by
  induction L with
  | nil => rfl
  | cons x l ih =>
    unfold seenErr
    have hx : tabsErr n x = 0 := h 0 (by simp)
    rw [if_neg (by simp [hx])]
    exact ih fun i hi => h (i + 1) (by simpa using hi)
/-! The states. -/
def stTo (t : BitVec 64) (k : Nat) : List Nat := (List.range k).filter (bt t)
theorem stTo_step (t : BitVec 64) (k : Nat) : stTo t (k + 1) = stTo t k ++ if bt t k then [k] else [] := by
  unfold stTo
  rw [List.range_succ, List.filter_append]
  congr 1
  cases h : bt t k <;> simp [h]
theorem stTo_len (t : BitVec 64) (k : Nat) : (stTo t k).length ≤ k := by
  have := List.length_filter_le (bt t) (List.range k)
  simpa [stTo] using this
theorem stTo_mem {t : BitVec 64} {n : Nat} (hn : n ≤ 64) (h : ∀ k, n ≤ k → bt t k = false) : stTo t n = memL t := by
  unfold stTo memL
  obtain ⟨d, hd⟩ : ∃ d, 64 = n + d := ⟨64 - n, by omega⟩
  rw [hd, List.range_eq_range', List.range_eq_range', ← List.range'_append_1, List.filter_append]
  have : (List.range' (0 + n) d).filter (bt t) = [] := by
    rw [List.filter_eq_nil_iff]
    intro a ha
    rw [List.mem_range'_1] at ha
    rw [h a (by omega)]; simp
  rw [this, List.append_nil]
theorem tab_high {f : List Nd} {n : Int} (h : tabErr f n = 0) {k : Nat} (hk : 2 ^ n.toNat ≤ k) : bt (tabOf f n) k = false := by
  by_cases h64 : k < 64
  · rw [tab_eq h, bt_setTo _ h64, decide_eq_false (by omega)]; rfl
  · exact BitVec.getLsbD_of_ge _ _ (Nat.le_of_not_lt h64)
/-! The facts. -/
/-- The facts after k states and i facts of the next one. -/
def vaP (N : Nat) (st : List Nat) (k i : Nat) : List (BitVec 64) := (List.range N).map fun j => setTo (fun w => (nth st w).testBit j) (if j < i then k + 1 else k)
theorem vaP_len (N : Nat) (st : List Nat) (k i : Nat) : (vaP N st k i).length = N := by simp [vaP]
theorem vaP_nth {N j : Nat} (st : List Nat) (k i : Nat) (h : j < N) : nth (vaP N st k i) j = setTo (fun w => (nth st w).testBit j) (if j < i then k + 1 else k) := by
  unfold vaP; rw [nth_mapN _ _ (by simpa using h), nth_range h]
theorem vaP_zero (N : Nat) (st : List Nat) : vaP N st 0 0 = List.replicate N 0#64 := by
  refine nth_ext (by simp [vaP]) fun k hk => ?_
  rw [vaP_len] at hk
  rw [vaP_nth st 0 0 hk, nth_eq _ _ (by simpa using hk)]
  simp [setTo]
theorem vaP_next (N : Nat) (st : List Nat) (k : Nat) : vaP N st (k + 1) 0 = vaP N st k N := by
  refine nth_ext (by simp [vaP]) fun j hj => ?_
  rw [vaP_len] at hj
  rw [vaP_nth st _ _ hj, vaP_nth st _ _ hj, if_neg (by omega), if_pos hj]
theorem vaP_all (N : Nat) (st : List Nat) : vaP N st st.length 0 = valR N st := by
  refine nth_ext (by simp [vaP, valR]) fun j hj => ?_
  rw [vaP_len] at hj
  unfold valR
  rw [vaP_nth st _ _ hj, if_neg (by omega), nth_mapN _ _ (by simpa using hj), nth_range hj]
theorem vaP_set {N i : Nat} (st : List Nat) (k : Nat) (h : i < N) : (vaP N st k i).set i (setTo (fun w => (nth st w).testBit i) (k + 1)) = vaP N st k (i + 1) := by
  refine nth_ext (by simp [vaP]) fun j hj => ?_
  rw [List.length_set, vaP_len] at hj
  by_cases e : j = i
  · subst e
    rw [nth_setS _ (by rw [vaP_len]; exact hj), vaP_nth st _ _ hj, if_pos (by omega)]
  · rw [nth_setO _ e, vaP_nth st _ _ hj, vaP_nth st _ _ hj]
    by_cases h2 : j < i
    · rw [if_pos h2, if_pos (by omega)]
    · rw [if_neg h2, if_neg (by omega)]
/-! Rows in memory of the call. -/
/-- Rows that the call has made. -/
structure TL (W0 : World) (L : List (List (BitVec 64))) (svs : List Value) (v : Value) (w : World) : Prop where
  e : Ext W0 w
  len : svs.length = L.length
  own : w.ownsRow W0.heap.size 25 1 v svs.length svs
  rw : ∀ j, j < L.length → OU w W0.heap.size (nth svs j) (nth L j)
section
variable {W0 w w' W1 : World} {L : List (List (BitVec 64))} {svs : List Value} {v v' : Value}
theorem TL.nil (W0 w : World) (e : Ext W0 w) : TL W0 [] [] (.slice none 0 0) w := ⟨e, rfl, World.ownsRow_nil _ _ _ _, fun j hj => absurd hj (by simp)⟩
theorem TL.ext' (h : TL W0 L svs v w) (e : Ext w w') : TL W0 L svs v w' := by
  have hk : ∀ {T sz m : Nat} {v : Value} {xs : List Value}, w.ownsRow W0.heap.size T sz v m xs → w'.ownsRow W0.heap.size T sz v m xs := fun {_ _ _ v _} ho => ho.kept (row := none) ⟨e.os, e.tape, e.output, e.size, fun k hk _ => e.block k hk⟩ (by cases v.ownBlock <;> simp)
  exact ⟨h.e.trans e, h.len, hk h.own, fun j hj => hk (h.rw j hj)⟩
theorem TL.push (h : TL W0 L svs v w) {sv : Value} {r : List (BitVec 64)} (hs : OU w W0.heap.size sv r) (ho : W1.ownsRow W0.heap.size 25 1 v' (svs.length + 1) (svs ++ [sv])) (g : w.grownBy W1 v.ownBlock) : TL W0 (L ++ [r]) (svs ++ [sv]) v' W1 := by
  have hr : ∀ k, v.ownBlock = some k → W0.heap.size ≤ k := fun k hk => (h.own.lt k hk).1
  have hk : ∀ {m : Nat} {u : Value} {xs : List Value}, w.ownsRow W0.heap.size 58 1 u m xs → W1.ownsRow W0.heap.size 58 1 u m xs := fun ho => ho.kept g (own_ne ho h.own (by decide))
  refine ⟨Below.grown h.e g h.e.size (fun k hk => hr k hk), by simp [h.len], by rw [List.length_append]; exact ho, fun j hj => ?_⟩
  by_cases hj2 : j < L.length
  · rw [nth_appL _ _ (by rw [h.len]; exact hj2), nth_appL _ _ hj2]; exact hk (h.rw j hj2)
  · have e : j = L.length := by simp at hj; omega
    subst e
    have e1 := nth_appR svs [sv] (k := 0) (by simp)
    have e2 := nth_appR L [r] (k := 0) (by simp)
    rw [Nat.add_zero, h.len] at e1
    rw [Nat.add_zero] at e2
    rw [e1, e2]; exact hk hs
theorem TL.rr (h : TL W0 L svs v w) (h1 : L.length ≤ 1000) (h2 : ∀ j, j < L.length → (nth L j).length ≤ 1000) : ∃ a c, v = .slice a L.length c ∧ RR w a L := by
  have hl := h.len
  obtain ⟨a, c, rfl⟩ : ∃ a c, v = .slice a L.length c := by
    rcases h.own.2 with ⟨rfl, h0⟩ | ⟨g, cap, cur, rfl, _⟩
    · exact ⟨none, 0, by rw [← hl, h0]⟩
    · exact ⟨some ⟨g, 0, none⟩, cap, by rw [hl]⟩
  exact ⟨a, c, rfl, RR_of_rows h.own hl h.rw (by omega) fun j hj => by have := h2 j hj; omega⟩
end
/-- The struct that Build fills: its sets, its rows. -/
structure BR (W0 : World) (bo : Nat) (len : Int) (V : List (BitVec 64)) (vv : Value) (L : List (List (BitVec 64))) (svs : List Value) (vr : Value) (w : World) : Prop where
  e : Ext W0 w
  lo : W0.heap.size ≤ bo
  out : OutAt w bo (.int .i64 len) vv vr
  ov : OU w W0.heap.size vv V
  ne : vv.ownBlock ≠ some bo
  rl : svs.length = L.length
  orr : w.ownsRow (bo + 1) 25 1 vr svs.length svs
  rw : ∀ j, j < L.length → OU w (bo + 1) (nth svs j) (nth L j)
section
variable {W0 w w' W1 : World} {bo : Nat} {len : Int} {V : List (BitVec 64)} {vv : Value} {L : List (List (BitVec 64))} {svs : List Value} {vr v' : Value}
theorem BR.ext' (h : BR W0 bo len V vv L svs vr w) (e : Ext w w') : BR W0 bo len V vv L svs vr w' := by
  have hk : ∀ {B T sz m : Nat} {v : Value} {xs : List Value}, w.ownsRow B T sz v m xs → w'.ownsRow B T sz v m xs := fun {_ _ _ _ v _} ho => ho.kept (row := none) ⟨e.os, e.tape, e.output, e.size, fun k hk _ => e.block k hk⟩ (by cases v.ownBlock <;> simp)
  exact ⟨h.e.trans e, h.lo, h.out.ext e, hk h.ov, h.ne, h.rl, hk h.orr, fun j hj => hk (h.rw j hj)⟩
theorem BR.outR (h : BR W0 bo len V vv L svs vr w) (g : w.grownBy W1 vr.ownBlock) : OutAt W1 bo (.int .i64 len) vv vr :=
  h.out.keep (g.block _ h.out.lt (fun e => by have := (h.orr.lt _ e.symm).1; omega))
theorem BR.push (h : BR W0 bo len V vv L svs vr w) {sv : Value} {r : List (BitVec 64)} (hs : OU w (bo + 1) sv r) (ho : W1.ownsRow (bo + 1) 25 1 v' (svs.length + 1) (svs ++ [sv])) (g : w.grownBy W1 vr.ownBlock) : BR W0 bo len V vv (L ++ [r]) (svs ++ [sv]) v' (W1.setCell ⟨bo, 2, none⟩ v') := by
  have hlo := h.lo
  have hr : ∀ k, vr.ownBlock = some k → bo + 1 ≤ k := fun k hk => (h.orr.lt k hk).1
  have hk1 : ∀ {B m : Nat} {u : Value} {xs : List Value}, w.ownsRow B 58 1 u m xs → W1.ownsRow B 58 1 u m xs := fun {B _ _ _} ho => ho.kept g (by
    refine own_ne (B := 0) (own_mono ho (Nat.zero_le _)) (own_mono h.orr (Nat.zero_le _)) (by decide))
  refine ⟨(Below.grown h.e g h.e.size (fun k hk => by have := hr k hk; omega)).setCell (by simpa using hlo) _, hlo, (h.outR g).set2 v', ownRow_set (hk1 h.ov) (.inr h.ne), h.ne, by simp [h.rl], ?_, fun j hj => ?_⟩
  · refine setOther ?_ (by omega)
    rw [List.length_append]; exact ho
  · by_cases hj2 : j < L.length
    · rw [nth_appL _ _ (by rw [h.rl]; exact hj2), nth_appL _ _ hj2]
      exact setOther (hk1 (h.rw j hj2)) (by omega)
    · have e : j = L.length := by simp at hj; omega
      subst e
      have e1 := nth_appR svs [sv] (k := 0) (by simp)
      have e2 := nth_appR L [r] (k := 0) (by simp)
      rw [Nat.add_zero, h.rl] at e1
      rw [Nat.add_zero] at e2
      rw [e1, e2]; exact setOther (hk1 hs) (by omega)
/-- What the struct holds is the model. -/
theorem BR.rm (h : BR W0 bo len V vv L svs vr w) (h1 : L.length ≤ 1000) (h2 : ∀ j, j < L.length → (nth L j).length ≤ 1000) (h3 : V.length ≤ 1000) : ∃ va vc ra rc, vv = .slice va V.length vc ∧ vr = .slice ra L.length rc ∧ RM w va ra ⟨len, V, L⟩ := by
  obtain ⟨va, vc, hv, hu⟩ := RU_of_OU h.ov (by omega)
  have hl := h.rl
  obtain ⟨a, c, hr⟩ : ∃ a c, vr = .slice a L.length c := by
    rcases h.orr.2 with ⟨rfl, h0⟩ | ⟨g, cap, cur, rfl, _⟩
    · exact ⟨none, 0, by rw [← hl, h0]⟩
    · exact ⟨some ⟨g, 0, none⟩, cap, by rw [hl]⟩
  refine ⟨va, vc, a, c, hv, hr, hu, ?_⟩
  have h4 := h.orr
  rw [hr] at h4
  exact RR_of_rows h4 hl h.rw (by show L.length ≤ _; omega) fun j hj => by have := h2 j hj; show (nth L j).length ≤ _; omega
end
/-- A model, a list of worlds and an error. -/
def RetBu (A : Mo) (l : List Int) (c : Int) (e : Ending) (w w' : World) : Prop := ∃ va ra la vc rc lc, e = .returned (.tuple #[.agg #[.int .i64 A.worlds, .slice va A.val.length vc, .slice ra A.rel.length rc], .slice la l.length lc, .int .i64 c]) ∧ RM w' va ra A ∧ RI w' la l ∧ Ext w w'
theorem RetBu.zero {w w' : World} (c : Int) (h : Ext w w') : RetBu ⟨0, [], []⟩ [] c (.returned (.tuple #[.agg #[.int .i64 0, .slice none 0 0, .slice none 0 0], .slice none 0 0, .int .i64 c])) w w' :=
  ⟨none, none, none, 0, 0, 0, rfl, ⟨RU.nil _ _, RR.nil _ _⟩, RI.nil _ _, h⟩
theorem RetR.zero {w w' : World} (c : Int) (h : Ext w w') : RetR ⟨0, [], []⟩ [] c (.returned (.tuple #[.agg #[.int .i64 0, .slice none 0 0, .slice none 0 0], .slice none 0 0, .int .i64 c])) w w' :=
  ⟨none, none, none, 0, 0, 0, rfl, fun _ _ => ⟨⟨RU.nil _ _, RR.nil _ _⟩, RI.nil _ _⟩, h⟩
theorem RetR.bu {A : Mo} {l : List Int} {c : Int} {e : Ending} {w w' : World} (h : RetR A l c e w w') : RetBu A l c e w w' := by
  obtain ⟨va, ra, la, vc, rc, lc, h1, h2, h3⟩ := h
  obtain ⟨h4, h5⟩ := h2 w' fun _ _ _ => rfl
  exact ⟨va, ra, la, vc, rc, lc, h1, h4, h5, h3⟩
end Wt

/- Lists of observations that a call makes. -/
namespace Wt
open Go Go.RowKit Go.Maps Go.Proofs Fm

theorem ssn_info : (Tryd.prog.info? 71).map (fun i => (i.zero, i.size, i.bytes)) = some (some (.slice none 0 0), 1, 24) := by kernel_rfl
/-- Formulas whose slices lie in one block, in a later world that left their blocks alone. -/
theorem RNN.keep {w w' : World} {b : Nat} {L : List (List Nd)} (hl : L.length ≤ 140737488355328) (h : ∀ k, k < L.length → ∃ a' c', w.cell? ⟨b, k, none⟩ = some (.slice a' (nth L k).length c') ∧ RN w a' (nth L k) ∧ ∀ q off, a' = some ⟨q, off, none⟩ → w'.heap[q]? = w.heap[q]?) (hb : w'.heap[b]? = w.heap[b]?) : RNN w' (some ⟨b, 0, none⟩) L :=
  ⟨hl, fun k hk => by
    obtain ⟨a', c', h1, h2, h3⟩ := h k hk
    have h4 : w'.cell? ⟨b, k, none⟩ = some (.slice a' (nth L k).length c') := by rw [← h1]; exact World.cell?_of_block hb
    exact ⟨b, 0, a', c', rfl, World.block_lt_of_cell? _ _ h4, by rw [Nat.zero_add]; exact h4, h2.keepB h3⟩⟩
/-- It reads as these formulas as long as only one block changes. -/
def Stay (g : Option Nat) (w : World) (a : Option Addr) (L : List (List Nd)) : Prop := ∀ w', (∀ k, k < w.heap.size → some k ≠ g → w'.heap[k]? = w.heap[k]?) → RNN w' a L
theorem Stay.now {g : Option Nat} {w : World} {a : Option Addr} {L : List (List Nd)} (h : Stay g w a L) : RNN w a L := h w fun _ _ _ => rfl
theorem Stay.ext {g : Option Nat} {w w1 : World} {a : Option Addr} {L : List (List Nd)} (h : Stay g w a L) (e : Ext w w1) : Stay g w1 a L :=
  fun w' hk => h w' fun k h1 h2 => (hk k (Nat.lt_of_lt_of_le h1 e.size) h2).trans (e.block k h1)
/-- A list of lists of formulas that the call has made. -/
structure SK (W0 : World) (L : List (List (List Nd))) (svs : List Value) (v : Value) (w : World) : Prop where
  e : Ext W0 w
  len : svs.length = L.length
  own : w.ownsRow W0.heap.size 71 1 v svs.length svs
  rd : ∀ j, j < L.length → ∃ a c, nth svs j = .slice a (nth L j).length c ∧ Stay v.ownBlock w a (nth L j)
def SKV (W0 : World) (L : List (List (List Nd))) (v : Value) (w : World) : Prop := ∃ svs, SK W0 L svs v w
section
variable {W0 w w' W1 : World} {L : List (List (List Nd))} {svs : List Value} {v v' : Value}
theorem SK.nil (W0 : World) : SK W0 [] [] (.slice none 0 0) W0 := ⟨Ext.refl _, rfl, World.ownsRow_nil _ _ _ _, fun j hj => absurd hj (by simp)⟩
theorem SK.ext' (h : SK W0 L svs v w) (e : Ext w w') : SK W0 L svs v w' := by
  have hk : ∀ {T sz m : Nat} {v : Value} {xs : List Value}, w.ownsRow W0.heap.size T sz v m xs → w'.ownsRow W0.heap.size T sz v m xs := fun {_ _ _ v _} ho => ho.kept (row := none) ⟨e.os, e.tape, e.output, e.size, fun k hk _ => e.block k hk⟩ (by cases v.ownBlock <;> simp)
  exact ⟨h.e.trans e, h.len, hk h.own, fun j hj => by
    obtain ⟨a, c, h1, h2⟩ := h.rd j hj
    exact ⟨a, c, h1, h2.ext e⟩⟩
theorem Stay.grown {a : Option Addr} {l : List (List Nd)} {g : Nat} (h : Stay v.ownBlock w a l) (hg : w.grownBy W1 v.ownBlock) (hat : v.ownBlock = some g ∨ g = w.heap.size) : Stay (some g) W1 a l :=
  fun w' hk => h w' fun k h1 h2 => by
    refine (hk k (Nat.lt_of_lt_of_le h1 hg.size) fun e => ?_).trans (hg.block k h1 h2)
    rcases hat with h3 | h3
    · exact h2 (e.trans h3.symm)
    · cases e; omega
theorem SK.push (h : SK W0 L svs v w) {a : Option Addr} {c g n cap : Nat} {l : List (List Nd)} (hs : Stay v.ownBlock w a l) (ho : W1.ownsRow W0.heap.size 71 1 (.slice (some ⟨g, 0, none⟩) n cap) (svs.length + 1) (svs ++ [.slice a l.length c])) (hg : w.grownBy W1 v.ownBlock) (hat : v.ownBlock = some g ∨ g = w.heap.size) : SK W0 (L ++ [l]) (svs ++ [.slice a l.length c]) (.slice (some ⟨g, 0, none⟩) n cap) W1 := by
  refine ⟨Below.grown h.e hg h.e.size (fun k hk => (h.own.lt k hk).1), by simp [h.len], by rw [List.length_append]; exact ho, fun j hj => ?_⟩
  by_cases hj2 : j < L.length
  · rw [nth_appL _ _ (by rw [h.len]; exact hj2), nth_appL _ _ hj2]
    obtain ⟨a, c, h1, h2⟩ := h.rd j hj2
    exact ⟨a, c, h1, h2.grown hg hat⟩
  · have e : j = L.length := by simp at hj; omega
    subst e
    have e1 := nth_appR svs [.slice a l.length c] (k := 0) (by simp)
    have e2 := nth_appR L [l] (k := 0) (by simp)
    rw [Nat.add_zero, h.len] at e1
    rw [Nat.add_zero] at e2
    rw [e1, e2]; exact ⟨a, c, rfl, hs.grown hg hat⟩
theorem SK.rnnn (h : SK W0 L svs v w) (h1 : L.length ≤ 1000) : ∃ a c, v = .slice a L.length c ∧ RNNN w a L := by
  have hl := h.len
  rcases h.own.2 with ⟨rfl, h0⟩ | ⟨g, cap, cur, rfl, hb, hg, hnc, hcm, hcs, htake⟩
  · have : L = [] := List.eq_nil_of_length_eq_zero (by omega)
    subst this
    exact ⟨none, 0, rfl, RNNN.nil _ _⟩
  · refine ⟨some ⟨g, 0, none⟩, cap, by rw [hl], by omega, fun k hk => ?_⟩
    obtain ⟨a', c', hv, hr⟩ := h.rd k hk
    refine ⟨g, 0, a', c', rfl, (Array.getElem?_eq_some_iff.1 hg).1, ?_, hr.now⟩
    rw [cell_of_row w g _ cur _ (0, 0) hg, Nat.zero_add, ← hv]
    have h3 : svs[k]? = some (nth svs k) := by rw [nth_eq svs k (by omega)]; simp [show k < svs.length by omega]
    have h4 : (cur.toList.take (svs.length * 1))[k]? = some (nth svs k) := by rw [htake]; exact h3
    rw [List.getElem?_take, if_pos (by omega)] at h4
    simpa using h4
end
/-- Formulas in a box of their own, behind what was there. -/
theorem Stay.list {g : Option Nat} {n b : Nat} {w2 : World} {L : List (List Nd)} (hg : ∀ k, g = some k → k < n) (hb : n ≤ b) (hb2 : b < w2.heap.size) (hl : L.length ≤ 1000) (h : ∀ k, k < L.length → ∃ a c, w2.cell? ⟨b, k, none⟩ = some (.slice a (nth L k).length c) ∧ RN w2 a (nth L k) ∧ Fresh a n ∧ 0 < (nth L k).length) : Stay g w2 (some ⟨b, 0, none⟩) L := by
  intro w' hk
  refine RNN.keep (w := w2) (by omega) (fun k hk2 => ?_) (hk _ hb2 fun e => by have := hg _ e.symm; omega)
  obtain ⟨a, c, h1, h2, h3, h4⟩ := h k hk2
  refine ⟨a, c, h1, h2, fun q off e => ?_⟩
  subst e
  have hq := h3 q off rfl
  obtain ⟨b', o', e', hb', -⟩ := h2.get h4
  cases e'
  exact hk _ hb' fun e => by have := hg _ e.symm; omega
end Wt
