/- Walks: math/bits.TrailingZeros64, model.members, model.pull. The first one asks that its table lies as the program's text lays it. -/
import Derived.Test.YtbeaagnahldefaaDoorM8Ai
import Derived.Deep.AppendLies
import Derived.Shelf.Spec.TrailingZeros
import Derived.RangeFuncNested
import Derived.RangeFuncCalls
import Derived.RangeFuncLeaves
import Derived.Test.YtbeaagnahldefaaDoorM8Aa
import Derived.Deep.QuietTactic
import Derived.BigQuiet
namespace Wt
open Go Go.RowKit Go.Maps Go.Proofs Fm

/-- The table that TrailingZeros64 reads. -/
def Tab (w : World) : Prop := TabAt 0 Lib.deBruijn64tab w
theorem Tab.ext {w w' : World} (h : Tab w) (e : Ext w w') : Tab w' := fun j hj => e.cell (h j hj)
set_option maxHeartbeats 1000000 in
theorem tz_core (x k idx : Nat) (w : World) (hx0 : ((x : Int) == 0) = false)
    (key : IntKind.u64.wrap (bits BinOp.and IntKind.u64 (x : Int) (IntKind.u64.wrap (-(x : Int))) * 285870213051353865) / 288230376151711744 = (idx : Int))
    (hi : idx < 64) (hk : k < 64) (hcell : w.cell? ⟨0, idx, none⟩ = some (.int .u8 (k : Int))) :
    Calls Tryd.prog 84 #[.int .u64 (x : Int)] w fun e w' => e = .returned (.int .i64 (k : Int)) ∧ w = w' := by
  go_enter Tryd.func84, Tryd.ntmps84
  go_wp2_with (simp only [key])
  go_ret
  exact ⟨rfl, rfl⟩
/-- The least world of a set. -/
def tz (S : BitVec 64) : Nat := Lib.ctz 64 S.toNat
theorem tz_any (S : BitVec 64) (hS : S ≠ 0#64) (w : World) (hT : Tab w) :
    Calls Tryd.prog 84 #[.int .u64 (un S)] w fun e w' => e = .returned (.int .i64 (tz S : Int)) ∧ w = w' := by
  have hx : S.toNat < 2 ^ 64 := S.isLt
  have hx0 : S.toNat ≠ 0 := fun h => hS (BitVec.eq_of_toNat_eq (by simpa using h))
  obtain ⟨hlow, hk⟩ := Lib.lowest_bit 64 S.toNat hx0 hx
  obtain ⟨hi, htab⟩ := Lib.deBruijn64_at _ hk
  have hcell := hT _ hi
  rw [htab] at hcell
  exact tz_core S.toNat _ _ w (by rw [beq_eq_false_iff_ne]; omega) (tz64_key S.toNat _ hx hx0 hlow) hi hk hcell
theorem tz_spec {S : BitVec 64} (hS : S ≠ 0#64) : tz S < 64 ∧ bt S (tz S) = true ∧ (∀ j, j < tz S → bt S j = false) ∧ ∀ j, bt (S &&& (S - 1#64)) j = (bt S j && decide (j ≠ tz S)) := by
  have hx : S.toNat < 2 ^ 64 := S.isLt
  have hx0 : S.toNat ≠ 0 := fun h => hS (BitVec.eq_of_toNat_eq (by simpa using h))
  obtain ⟨m, hm, hk⟩ := Lib.ctzFrom_spec 64 S.toNat (by omega) hx
  have ht : tz S = Lib.ctzFrom 64 S.toNat := by unfold tz Lib.ctz; rw [if_neg hx0]
  rw [← ht] at hm hk
  generalize tz S = k at *
  have hb : ∀ j, bt S j = (decide (k ≤ j) && (2 * m + 1).testBit (j - k)) := by
    intro j
    show S.getLsbD j = _
    rw [← BitVec.testBit_toNat, hm, Nat.mul_comm, Nat.testBit_mul_two_pow]
  have h1 : (S - 1#64).toNat = 2 ^ k * (2 * m) + (2 ^ k - 1) := by
    have hp : 0 < 2 ^ k := Nat.two_pow_pos k
    have e1 : 2 ^ k * (2 * m + 1) = 2 ^ k * (2 * m) + 2 ^ k := by rw [Nat.mul_add, Nat.mul_one]
    rw [BitVec.toNat_sub]
    simp only [BitVec.toNat_ofNat]
    omega
  have hb1 : ∀ j, bt (S - 1#64) j = if j < k then (2 ^ k - 1).testBit j else (2 * m).testBit (j - k) := by
    intro j
    show (S - 1#64).getLsbD j = _
    rw [← BitVec.testBit_toNat, h1, Nat.testBit_two_pow_mul_add _ (by have := Nat.two_pow_pos k; omega)]
  refine ⟨hk, ?_, fun j hj => ?_, fun j => ?_⟩
  · rw [hb]; simp [Nat.testBit_zero]
  · rw [hb]; simp; omega
  · rw [bt_and, hb1, hb]
    rcases Nat.lt_trichotomy j k with h | h | h
    · simp [show ¬ k ≤ j by omega]
    · subst h; simp [Nat.testBit_zero]
    · obtain ⟨i, hi⟩ : ∃ i, j - k = i + 1 := ⟨j - k - 1, by omega⟩
      rw [if_neg (by omega), hi, Nat.testBit_succ, Nat.testBit_succ]
      have d1 : (2 * m + 1) / 2 = m := by omega
      have d2 : 2 * m / 2 = m := by omega
      rw [d1, d2]
      have d3 : k ≤ j := by omega
      have d4 : j ≠ k := by omega
      simp [d3, d4]
/-- The worlds of a set, in ascending order. -/
def memL (s : BitVec 64) : List Nat := (List.range 64).filter (bt s)
theorem memL_zero : memL 0#64 = [] := by
  unfold memL
  rw [List.filter_eq_nil_iff]
  intro a _
  simp [bt_zero]
theorem memL_step {S : BitVec 64} (hS : S ≠ 0#64) : memL S = tz S :: memL (S &&& (S - 1#64)) := by
  obtain ⟨hk, h1, h2, h3⟩ := tz_spec hS
  generalize tz S = c at *
  have e : List.range 64 = List.range c ++ (c :: List.range' (c + 1) (63 - c)) := by
    rw [List.range_eq_range', List.range_eq_range', ← List.range'_succ]
    have := List.range'_append_1 (s := 0) (m := c) (n := 63 - c + 1)
    rw [Nat.zero_add] at this
    rw [this]
    congr 1; omega
  unfold memL
  rw [e, List.filter_append, List.filter_append]
  have f1 : (List.range c).filter (bt S) = [] := by
    rw [List.filter_eq_nil_iff]; intro a ha; rw [h2 a (List.mem_range.1 ha)]; simp
  have f2 : (List.range c).filter (bt (S &&& (S - 1#64))) = [] := by
    rw [List.filter_eq_nil_iff]; intro a ha; rw [h3, h2 a (List.mem_range.1 ha)]; simp
  rw [f1, f2, List.nil_append, List.nil_append, List.filter_cons_of_pos h1, List.filter_cons_of_neg (by rw [h3]; simp)]
  congr 1
  apply List.filter_congr
  intro a ha
  rw [List.mem_range'_1] at ha
  rw [h3]
  have : a ≠ c := by omega
  simp [this]
theorem mem_memL {s : BitVec 64} {k : Nat} : k ∈ memL s ↔ k < 64 ∧ bt s k = true := by simp [memL]
theorem memL_len (s : BitVec 64) : (memL s).length ≤ 64 := by
  have := List.length_filter_le (bt s) (List.range 64)
  simpa [memL] using this

section
variable {α : Type} {enc : α → Value} {T : Nat} {w0 wr W1 : World} {l : List α} {v v' : Value}
/-- A slice of elements of one cell that the call has made by appending. -/
structure GL (w0 : World) (T : Nat) (enc : α → Value) (l : List α) (v : Value) (wr : World) : Prop where
  e : Ext w0 wr
  own : wr.ownsRow w0.heap.size T 1 v l.length (l.map enc)
theorem GL.ext' {w' : World} (h : GL w0 T enc l v wr) (e : Ext wr w') : GL w0 T enc l v w' :=
  ⟨h.e.trans e, h.own.kept (row := none) ⟨e.os, e.tape, e.output, e.size, fun k hk _ => e.block k hk⟩ (by cases v.ownBlock <;> simp)⟩
theorem GL.push (h : GL w0 T enc l v wr) {x : α} (ho : W1.ownsRow w0.heap.size T 1 v' (l.length + 1) (l.map enc ++ [enc x])) (g : wr.grownBy W1 v.ownBlock) : GL w0 T enc (l ++ [x]) v' W1 := by
  refine ⟨ext_of_grown h.e g (fun b hb => (h.own.lt b hb).1), ?_⟩
  rw [List.map_append, List.length_append]
  exact ho
end
theorem int_info : (Tryd.prog.info? 3).map (fun i => (i.zero, i.size, i.bytes)) = some (some (.int .i64 0), 1, 8) := by kernel_rfl
def iv (n : Int) : Value := .int .i64 n
def natI (l : List Nat) : List Int := l.map fun n : Nat => (n : Int)
theorem nth_natI {l : List Nat} {k : Nat} (h : k < l.length) : nth (natI l) k = ((nth l k : Nat) : Int) := by
  rw [nth_eq _ _ (by simpa [natI] using h), nth_eq _ _ h]; simp [natI]
theorem RI_of_own {wr : World} {B : Nat} {l : List Int} {v : Value} (h : wr.ownsRow B 3 1 v l.length (l.map iv)) (hl : l.length ≤ 140737488355328) : ∃ a c, v = .slice a l.length c ∧ RI wr a l := by
  rcases h.2 with ⟨rfl, h0⟩ | ⟨g, cap, cur, rfl, hb, hg, hnc, hcm, hcs, htake⟩
  · have : l = [] := List.eq_nil_of_length_eq_zero h0
    subst this
    exact ⟨none, 0, rfl, RI.nil _ _⟩
  · refine ⟨some ⟨g, 0, none⟩, cap, rfl, hl, fun k hk => ⟨g, 0, rfl, ?_⟩⟩
    rw [cell_of_row wr g _ cur _ (0, 0) hg, Nat.zero_add]
    have h1 : (l.map iv)[k]? = some (iv (nth l k)) := by rw [List.getElem?_map, nth_eq l k hk]; simp [hk]
    rw [← htake, List.getElem?_take, if_pos (by omega)] at h1
    simpa [iv] using h1
/-- Two worlds agree from a block on. -/
def Agree (B : Nat) (w' w'' : World) : Prop := ∀ k, B ≤ k → k < w'.heap.size → w''.heap[k]? = w'.heap[k]?
theorem Agree.mono {B B' : Nat} {w' w'' : World} (h : Agree B w' w'') (hb : B ≤ B') : Agree B' w' w'' := fun k hk hl => h k (by omega) hl
theorem own_agree {w w'' : World} {B T sz n : Nat} {v : Value} {xs : List Value} (h : w.ownsRow B T sz v n xs) (ha : Agree B w w'') : w''.ownsRow B T sz v n xs := by
  refine ⟨h.1, ?_⟩
  rcases h.2 with h0 | ⟨g, cap, cur, e, hb, hg, hr⟩
  · exact .inl h0
  · exact .inr ⟨g, cap, cur, e, hb, by rw [ha g hb (Array.getElem?_eq_some_iff.1 hg).1]; exact hg, hr⟩
/-- A list of numbers that the call has made: it reads so in every world that agrees from the call's first block on. -/
def RetI (l : List Int) (e : Ending) (w w' : World) : Prop := ∃ a c, e = .returned (.slice a l.length c) ∧ (∀ w'', Agree w.heap.size w' w'' → RI w'' a l) ∧ Ext w w'
/-- The rounds of members. -/
structure MemAt (w : World) (s S : BitVec 64) (L : List Nat) (v : Value) (wr : World) : Prop where
  eq : memL s = L ++ memL S
  own : GL w 3 iv (natI L) v wr
def MemE (w : World) (s : BitVec 64) (sv v : Value) (wr : World) : Prop := ∃ S L, sv = .int .u64 (un S) ∧ MemAt w s S L v wr
set_option maxRecDepth 20000 in
set_option maxHeartbeats 2000000 in
theorem members_any (s : BitVec 64) (w : World) (hT : Tab w) :
    Calls Tryd.prog 91 #[.int .u64 (un s)] w fun e w' => RetI (natI (memL s)) e w w' := by
  have HT := Lib.hid hT
  clear hT
  obtain ⟨i0, hi1, hz0, hz1, hz2⟩ := info_parts int_info
  go_enter Tryd.func91, Tryd.ntmps91
  go_wp2
  go_loopw [0, 3] (fun sv v wr => MemE w s sv v wr) (fun sv _ _ => bvOf sv)
  case atStart => exact ⟨s, [], rfl, by simp, Ext.refl _, World.ownsRow_nil _ _ _ _⟩
  case round =>
    obtain ⟨S, L, rfl, hM⟩ := hrel
    have HM := Lib.hid hM
    by_cases hS : S = 0#64
    · have h2 : natI L = natI (memL s) := by rw [hM.eq, hS, memL_zero, List.append_nil]
      have hlen := memL_len s
      have hlen2 : (natI L).length ≤ 140737488355328 := by rw [h2]; simp [natI]; omega
      obtain ⟨a, c, hv, -⟩ := RI_of_own hM.own.own hlen2
      have hu : ∀ w'', Agree w.heap.size wr w'' → RI w'' a (natI L) := fun w'' ha => by
        obtain ⟨a', c', hv', hu'⟩ := RI_of_own (own_agree hM.own.own ha) hlen2
        rw [hv] at hv'
        simp only [Value.slice.injEq] at hv'
        obtain ⟨rfl, -, -⟩ := hv'
        exact hu'
      have hq : (S != 0#64) = false := by simp [hS]
      have HU := Lib.hid hu
      have HV := Lib.hid hv
      have H2 := Lib.hid h2
      clear hM hu hv hS h2 hlen hlen2
      go_wp2
      go_ret
      exact ⟨a, c, by rw [HV.out, H2.out]; rfl, by rw [← H2.out]; exact HU.out, HM.out.own.e⟩
    · have hq : (S != 0#64) = true := by simp [hS]
      have hst := memL_step hS
      have hlt : (S &&& (S - 1#64)).toNat < S.toNat := by
        refine sub_toNat_lt (fun k hk h => ?_) (fun e => ?_)
        · rw [bt_and, Bool.and_eq_true] at h; exact h.1
        · have h3 := (tz_spec hS).2.2.2 (tz S)
          rw [e, (tz_spec hS).2.1] at h3; simp at h3
      have hL : L.length ≤ 64 := by
        have h3 := memL_len s
        rw [hM.eq, List.length_append] at h3; omega
      have hNX : memL s = (L ++ [tz S]) ++ memL (S &&& (S - 1#64)) := by rw [hM.eq, hst]; simp
      have HNX := Lib.hid hNX
      have HLT := Lib.hid hlt
      have hll : (natI L).length = L.length := by simp [natI]
      have HO : Hid (∀ o, (wr.alloc o).ownsRow w.heap.size 3 1 u3 (natI L).length ((natI L).map iv)) := fun o => (HM.out.own.ext' ((Ext.refl wr).alloc o)).own
      have HPA : Hid (∀ o, GL w 3 iv (natI L) u3 (wr.alloc o)) := fun o => HM.out.own.ext' ((Ext.refl wr).alloc o)
      have HONE : Hid (∀ u ∈ [Value.int .i64 (tz S : Int)], u.oneCell' = true) := fun u hu => by
        rcases List.mem_singleton.1 hu with rfl
        rfl
      have hsz1 : w.heap.size ≤ wr.heap.size := HM.out.own.e.size
      have HTr : Hid (Tab wr) := HT.out.ext HM.out.own.e
      have HS := Lib.hid hS
      clear hM hst hlt hNX hS
      go_wp2_with (first | (go_at_call 84; refine (tz_any S HS.out _ HTr.out).mono ?_; rintro _ _ ⟨rfl, rfl⟩) | (at_builtin; refine wpList_append_lies _ rfl _ _ 29 rfl w.heap.size 3 i0 _ 1 8 Tryd.underlying29 hi1 hz0 hz1 hz2 rfl (by decide) u3 (natI L).length _ rfl (HO.out _) ⟨wr.heap.size, 0, none⟩ 1 1 [.int .i64 (tz S : Int)] rfl rfl (cell_one_new _ _ _) HONE.out (by decide) (by unfold maxLen; omega) (by omega) (Nat.le_trans hsz1 (by simp)) (wr.heap.size + 1) (by simp) ?_; intro gx cap W1 hown hgrow hat hlt2; have hpush := (HPA.out _).push (x := (tz S : Int)) hown hgrow; have HPU := Lib.hid hpush; clear hpush hown hgrow hat))
      go_roundw
      case rel => exact ⟨S &&& (S - 1#64), L ++ [tz S], rfl, HNX.out, by have := HPU.out; simpa [natI] using this⟩
      case measure => rw [bvOf_un, bvOf_un]; exact HLT.out

/-! model.pull. -/
def pullK (s : BitVec 64) (ws : List Nat) : Nat → BitVec 64
  | 0 => 0#64
  | k + 1 => pullK s ws k ||| ((s >>> nth ws k &&& 1#64) <<< k)
def pullL (s : BitVec 64) (ws : List Nat) : BitVec 64 := pullK s ws ws.length
theorem bt_pullK (s : BitVec 64) (ws : List Nat) {k : Nat} (hk : k < 64) : ∀ m, m ≤ 64 → bt (pullK s ws m) k = (decide (k < m) && bt s (nth ws k))
  | 0, _ => by simp [pullK, bt_zero]
  | m + 1, hm => by
    have ih := bt_pullK s ws hk m (by omega)
    have e : bt ((s >>> nth ws m &&& 1#64) <<< m) k = (decide (k = m) && bt s (nth ws m)) := by
      simp only [bt, BitVec.getLsbD_shiftLeft, BitVec.getLsbD_and, BitVec.getLsbD_ushiftRight, BitVec.getLsbD_one]
      by_cases h : k = m
      · subst h; simp [hk]
      · by_cases h2 : k < m
        · simp [h, h2]
        · have : ¬ (k - m = 0) := by omega
          simp [h, this]
    unfold pullK
    rw [bt_or, ih, e]
    by_cases h : k = m
    · subst h; simp
    · have : (decide (k < m + 1)) = decide (k < m) := by simp; omega
      rw [this]; simp [h]
theorem bt_pullL (s : BitVec 64) (ws : List Nat) (hw : ws.length ≤ 64) (k : Nat) : bt (pullL s ws) k = (decide (k < ws.length) && bt s (nth ws k)) := by
  by_cases hk : k < 64
  · exact bt_pullK s ws hk _ hw
  · have h1 : bt (pullL s ws) k = false := BitVec.getLsbD_of_ge _ _ (by omega)
    rw [h1]; simp; omega
set_option maxHeartbeats 1000000 in
theorem pull_any (s : BitVec 64) (ws : List Nat) (a : Option Addr) (c : Nat) (w : World) (hr : RI w a (natI ws)) :
    Calls Tryd.prog 113 #[.int .u64 (un s), .slice a ws.length c] w fun e w' => e = .returned (.int .u64 (un (pullL s ws))) ∧ w = w' := by
  have hl := hr.len
  have hll : (natI ws).length = ws.length := by simp [natI]
  rw [hll] at hl
  have HR := Lib.hid hr
  clear hr
  go_enter Tryd.func113, Tryd.ntmps113
  go_wp2
  go_loop [5, 10] (fun o i => ∃ k : Nat, k ≤ ws.length ∧ i = .int .i64 (k : Int) ∧ o = .int .u64 (un (pullK s ws k))) (fun _ i => ws.length - (intOf i).toNat)
  case atStart => exact ⟨0, Nat.zero_le _, rfl, rfl⟩
  case round =>
    obtain ⟨k, hk, rfl, rfl⟩ := hrel
    by_cases hlt : k < ws.length
    · obtain ⟨b, off, rfl, hb, hc⟩ := HR.out.get (k := k) (by omega)
      rw [nth_natI hlt] at hc
      go_wp2
      go_round
      case rel => exact ⟨k + 1, hlt, by go_num, rfl⟩
      case measure => simp [intOf]; omega
    · obtain rfl : k = ws.length := by omega
      go_wp2
      go_ret
      exact ⟨rfl, rfl⟩
end Wt

/- A range over an iterator that keeps its own state in a cell: the law of the statement. -/
namespace Wt
open Go Go.RowKit Go.Maps Go.Proofs

section
variable {F : Fence} {n : Nat} {P : Program}
/-- The iterator's contract: it hands on the numbers one by one; its own state lies in block b. -/
def PtsAt (F : Fence) (n : Nat) (P : Program) (g b : Nat) (xs : List Nat) (st : Nat → Value) : Prop :=
  ∀ (l : Nat) (J : Nat → World → Prop) (W : World),
    (∀ k A v, J k A → J k (A.setCell ⟨b, 0, none⟩ v)) → (∀ k A, J k A → J k A.drew) → (∀ k A, J k A → Tab A) →
    (∀ k A, k < xs.length → J k A → A.cell? ⟨b, 0, none⟩ = some (st k) → A.frozen? ⟨b, 0, none⟩ = false → YieldAt F (n - 1) P l #[.int .i64 ((nth xs k : Nat) : Int)] A fun e A' => e = .returned (.bool true) ∧ J (k + 1) A' ∧ A'.cell? ⟨b, 0, none⟩ = A.cell? ⟨b, 0, none⟩ ∧ A'.frozen? ⟨b, 0, none⟩ = A.frozen? ⟨b, 0, none⟩) →
    J 0 W → W.cell? ⟨b, 0, none⟩ = some (st 0) → W.frozen? ⟨b, 0, none⟩ = false →
    CallsIn F n P g #[.func (.yield l) #[] #[], .pointer (some ⟨b, 0, none⟩)] W fun e W' => (∃ v, e = .returned v) ∧ J xs.length W'
/-- How a round ends. -/
def ptsPost (I : Nat → World → Prop) (b k : Nat) (W : World) : Exit → Act → World → Prop
  | .normal, _, W' => KeepsOthers W W' ∧ I (k + 1) W' ∧ W'.cell? ⟨b, 0, none⟩ = W.cell? ⟨b, 0, none⟩ ∧ W'.frozen? ⟨b, 0, none⟩ = W.frozen? ⟨b, 0, none⟩
  | _, _, _ => False
theorem putObj_cell {W : World} {l b : Nat} (o : Obj) (h : b ≠ l) : (W.putObj l o).cell? ⟨b, 0, none⟩ = W.cell? ⟨b, 0, none⟩ ∧ (W.putObj l o).frozen? ⟨b, 0, none⟩ = W.frozen? ⟨b, 0, none⟩ :=
  ⟨World.cell?_of_block (World.putObj_heap_other h), World.frozen?_of_block (World.putObj_heap_other h)⟩
theorem wpIn_rangeFunc_pts {g : Operand} {ps : Array Tmp} {assign body : Code} {Q : Exit → Act → World → Prop} {a : Act} {w : World}
    (hro : F.round = none) (h1 : 1 ≤ n) {gf b : Nat} (hg : a.eval g = .func (.func gf) #[] #[.pointer (some ⟨b, 0, none⟩)]) (hFg : F.fn gf) (eg : ∀ args w, (callFunc gf args).run P w = .ok (.enter gf args) w)
    {xs : List Nat} {st : Nat → Value} (hseq : PtsAt F (n - 1) P gf b xs st) (hps : ps.size = 1)
    (hb0 : w.cell? ⟨b, 0, none⟩ = some (st 0)) (hbf : w.frozen? ⟨b, 0, none⟩ = false)
    (I : Nat → World → Prop) (hI : OwnFrom w.heap.size I) (hIb : ∀ k A v, I k A → I k (A.setCell ⟨b, 0, none⟩ v)) (hId : ∀ k A, I k A → I k A.drew) (hIT : ∀ k A, I k A → Tab A) (h0 : I 0 w) (a₁ : Nat → Act)
    (hassign : ∀ (l k : Nat) (W : World) (K : Act → World → Prop), K (a₁ (nth xs k)) W →
      assign.wpIn (F.inRound l) (n - 1 - 1) P (Exit.then K (fun _ _ _ => False)) { tmps := (ps.zip #[.int .i64 ((nth xs k : Nat) : Int)]).foldl (fun t (p, v) => t.setIfInBounds p v) a.tmps, defers := [] } W)
    (hbody : ∀ (l k : Nat) (W : World), k < xs.length → I k W → body.wpIn (F.inRound l) (n - 1 - 1) P (ptsPost I b k W) (a₁ (nth xs k)) W)
    (hdone : ∀ (D : Nat) (W : World), w.heap.size ≤ D → I xs.length W → W.heap[D]? = some (.deferred (some [])) → Q .normal { a with defers := { target := .collected D, args := #[] } :: a.defers } W) :
    (Code.rangeFunc g ps assign body).wpIn F n P Q a w := by
  have hbl : b < w.heap.size := World.block_lt_of_cell? _ _ hb0
  refine wpIn_rangeFunc ?_
  intro fn hfn
  rw [hro]
  obtain ⟨rec, hrec⟩ : ∃ rec : LoopState → Option Code → Loop, rec = fun st pe => { state := st, pending := pe, fn, tmps := a.tmps, params := ps, assign, body, defers := w.heap.size } := ⟨_, rfl⟩
  obtain ⟨W1, hW1⟩ : ∃ W1, (w.alloc (.deferred (some []))).alloc (.loop (rec .ready none)) = W1 := ⟨_, rfl⟩
  have hL1 : W1.heap[w.heap.size + 1]? = some (.loop (rec .ready none)) := by
    rw [← hW1]; have := World.alloc_heap_new (w.alloc (.deferred (some []))) (.loop (rec .ready none)); rwa [World.size_alloc] at this
  have hK1 : W1.heap[w.heap.size]? = some (.deferred (some [])) := by
    rw [← hW1]; exact (Below.heap_alloc _ _ _ (by simp)).trans (World.alloc_heap_new w _)
  have hI1 : I 0 W1 := by rw [← hW1]; exact hI.alloc _ (hI.alloc _ h0)
  have hold : W1.heap[b]? = w.heap[b]? := by
    rw [← hW1]; exact (Below.heap_alloc _ _ b (by simp; omega)).trans (Below.heap_alloc _ _ b hbl)
  refine ⟨w.heap.size + 1, [{ target := .collected w.heap.size, args := #[] }], W1, { target := .fn (.func gf) #[.pointer (some ⟨b, 0, none⟩)], args := #[.func (.yield (w.heap.size + 1)) #[] #[]] }, W1, gf,
    #[.func (.yield (w.heap.size + 1)) #[] #[]] ++ #[.pointer (some ⟨b, 0, none⟩)], W1, ?_, ?_, ?_, ?_, fun _ => h1, ?_⟩
  · rw [← hW1, hrec]; exact run_enterLoop_outer _ _ _ _ _
  · simp only [resolve, hg]
    simp [go_sem]
  · intro f' hf'; simp [Target.leads] at hf'; subst hf'; exact hFg
  · simp [invoke, go_sem, eg]
  · refine (hseq (w.heap.size + 1)
      (fun k W => I k W ∧ W.heap[w.heap.size + 1]? = some (.loop (rec .ready none)) ∧ W.heap[w.heap.size]? = some (.deferred (some [])))
      W1
      (fun k A v h => ⟨hIb k A v h.1, (Below.heap_setCell A ⟨b, 0, none⟩ v _ (by show w.heap.size + 1 ≠ b; omega)).trans h.2.1, (Below.heap_setCell A ⟨b, 0, none⟩ v _ (by show w.heap.size ≠ b; omega)).trans h.2.2⟩)
      (fun k A h => ⟨hId k A h.1, h.2.1, h.2.2⟩)
      (fun k A h => hIT k A h.1)
      ?_ ⟨hI1, hL1, hK1⟩ ((World.cell?_of_block hold).trans hb0) ((World.frozen?_of_block hold).trans hbf)).mono ?_
    · rintro k W hk ⟨hi, hl, hkd⟩ hbc hbz
      have hlt : w.heap.size + 1 < W.heap.size := (Array.getElem?_eq_some_iff.1 hl).1
      have hy := run_yield (P := P) (args := #[.int .i64 ((nth xs k : Nat) : Int)]) hl (by rw [hrec]; exact hps.symm)
      rw [hrec] at hy
      refine ⟨fn, _, assign, body, hy, roundIn_of_wpIn hfn (hassign _ k W _ ⟨_, run_beginRound hl (by rw [hrec]), ?_⟩)⟩
      have hl2 : (W.putObj (w.heap.size + 1) (.loop { rec .ready none with state := .busy })).heap[w.heap.size + 1]? = some (.loop { rec .ready none with state := .busy }) := World.putObj_heap_same hlt
      have hk2 : (W.putObj (w.heap.size + 1) (.loop { rec .ready none with state := .busy })).heap[w.heap.size]? = some (.deferred (some [])) := (World.putObj_heap_other (by omega)).trans hkd
      refine wpIn_mono (hbody _ k _ hk (hI.putObj _ hi (by omega) hl rfl)) ?_
      rintro e a3 W3 hp
      cases e with
      | normal =>
        obtain ⟨hk3, hi3, hc3, hf3⟩ := hp
        have hl3 := hk3.same _ _ hl2 rfl
        have hr := run_endRound (P := P) none hl3
        obtain ⟨c1, f1⟩ := putObj_cell (W := W) (l := w.heap.size + 1) (b := b) (.loop { rec .ready none with state := .busy }) (by omega)
        rw [hrec] at hr
        refine ⟨_, _, hr, rfl, ⟨hI.putObj _ hi3 (by omega) hl3 rfl, ?_, (World.putObj_heap_other (by omega)).trans (hk3.same _ _ hk2 rfl)⟩, ?_, ?_⟩
        · rw [hrec]; exact World.putObj_heap_same (Array.getElem?_eq_some_iff.1 hl3).1
        · exact ((putObj_cell _ (by omega)).1.trans hc3).trans c1
        · exact ((putObj_cell _ (by omega)).2.trans hf3).trans f1
      | ret => exact hp.elim
      | exit id => exact hp.elim
      | goto t => exact hp.elim
      | panic ch => exact hp.elim
      | outgrown => exact hp.elim
    · rintro e W2 ⟨⟨v, rfl⟩, hi, hl, hk⟩
      exact ⟨none, _, by have := run_endLoop (P := P) hl (by rw [hrec]; simp); rw [hrec] at this; exact this, hdone _ _ (Nat.le_refl _) (hI.putObj _ hi (by omega) hl rfl) ((World.putObj_heap_other (by omega)).trans hk)⟩
end
end Wt

/- Plain laws: the canonical list of a tree is right, and its last node is the tree. -/
namespace Wt
open Fm

theorem mem_put {s t : Fm} {L : List Fm} : s ∈ put t L ↔ s ∈ L ∨ s = t := by
  unfold put; split
  · rename_i h
    exact ⟨.inl, fun h2 => h2.elim id (fun e => e ▸ h)⟩
  · simp
/-- A formula that a tree contains. -/
def sbt (s : Fm) : Fm → Prop
  | .leaf o i e g => s = .leaf o i e g
  | .un o i e g x => s = .un o i e g x ∨ sbt s x
  | .bin o i e g x y => s = .bin o i e g x y ∨ sbt s x ∨ sbt s y
theorem mem_addT {s : Fm} : ∀ (t : Fm) (L : List Fm), s ∈ addT t L ↔ s ∈ L ∨ sbt s t
  | .leaf .., L => mem_put
  | .un o i e g x, L => by
    show s ∈ put _ _ ↔ _
    rw [mem_put, mem_addT x L]
    simp only [sbt]
    constructor
    · rintro ((h | h) | h)
      · exact .inl h
      · exact .inr (.inr h)
      · exact .inr (.inl h)
    · rintro (h | h | h)
      · exact .inl (.inl h)
      · exact .inr h
      · exact .inl (.inr h)
  | .bin o i e g x y, L => by
    show s ∈ put _ _ ↔ _
    rw [mem_put, mem_addT y, mem_addT x]
    simp only [sbt]
    constructor
    · rintro (((h | h) | h) | h)
      · exact .inl h
      · exact .inr (.inr (.inl h))
      · exact .inr (.inr (.inr h))
      · exact .inr (.inl h)
    · rintro (h | h | h | h)
      · exact .inl (.inl (.inl h))
      · exact .inr h
      · exact .inl (.inl (.inr h))
      · exact .inl (.inr h)
theorem sbt_size {s : Fm} : ∀ (t : Fm), sbt s t → s.size ≤ t.size
  | .leaf .., h => by rw [show s = _ from h]; exact Nat.le_refl _
  | .un o i e g x, h => by
    rcases h with rfl | h
    · exact Nat.le_refl _
    · have := sbt_size x h; simp [size]; omega
  | .bin o i e g x y, h => by
    rcases h with rfl | h | h
    · exact Nat.le_refl _
    · have := sbt_size x h; simp [size]; omega
    · have := sbt_size y h; simp [size]; omega
theorem sbt_refl (t : Fm) : sbt t t := by cases t <;> simp [sbt]
/-- The tree itself comes last. -/
theorem addT_last (t : Fm) : ∃ M, addT t [] = M ++ [t] := by
  cases t with
  | leaf o i e g => exact ⟨[], by simp [addT, put]⟩
  | un o i e g x =>
    refine ⟨addT x [], ?_⟩
    have hn : Fm.un o i e g x ∉ addT x [] := fun h => by
      have := sbt_size x (((mem_addT x []).1 h).elim (fun h => by simp at h) id)
      simp [size] at this; omega
    show put _ _ = _
    unfold put; rw [if_neg hn]
  | bin o i e g x y =>
    refine ⟨addT y (addT x []), ?_⟩
    have hn : Fm.bin o i e g x y ∉ addT y (addT x []) := fun h => by
      rcases (mem_addT y _).1 h with h | h
      · have := sbt_size x (((mem_addT x []).1 h).elim (fun h => by simp at h) id)
        simp [size] at this; omega
      · have := sbt_size y h
        simp [size] at this; omega
    show put _ _ = _
    unfold put; rw [if_neg hn]
theorem fsize_pos (t : Fm) : 0 < fsize t := by
  obtain ⟨M, h⟩ := addT_last t
  unfold fsize; rw [h]; simp
theorem canon_root (t : Fm) : (addT t [])[fsize t - 1]'(by have := fsize_pos t; unfold fsize at *; omega) = t := by
  obtain ⟨M, h⟩ := addT_last t
  have e : fsize t - 1 = M.length := by unfold fsize; rw [h]; simp
  simp only [h, e]
  simp
section
variable {L : List Fm} (hn : L.Nodup) (hc : Cl L) (ho : AllOk L)
include hn hc
theorem idx_kid {k : Nat} (hk : k < L.length) {c : Fm} (h : kid c L[k]) : idx L c < k ∧ c ∈ L := by
  obtain ⟨j, hj, e⟩ := hc k hk c h
  have hjl : j < L.length := by omega
  have : idx L c = j := by rw [← e]; exact idx_getElem hn hjl
  exact ⟨by omega, e ▸ List.getElem_mem hjl⟩
include ho
theorem encL_wf : Wf (encL L) := by
  intro k hk
  have hkl : k < L.length := by simpa using hk
  rw [nth_eq _ _ hk, encL_get hkl]
  have hok := ho _ (List.getElem_mem hkl)
  have hki := @idx_kid L hn hc k hkl
  generalize L[k] = t at hok hki
  cases t with
  | leaf o i e g =>
    refine nodeErr_zero (n := ⟨o, i, e, g, 0, 0⟩) hok.1 ?_ ?_ hok.2.2.1 hok.2.2.2
    · show opnd (useOf o).1.x 0 k = true
      rw [hok.2.1]; rfl
    · show opnd (useOf o).1.y 0 k = true
      have hy : (useOf o).1.y = false := by
        cases hy : (useOf o).1.y
        · rfl
        · have := useOf_yx o hy; rw [hok.2.1] at this; cases this
      rw [hy]; rfl
  | un o i e g x =>
    have h1 := (hki (c := x) rfl).1
    refine nodeErr_zero (n := ⟨o, i, e, g, idx L x, 0⟩) hok.1 ?_ ?_ hok.2.2.2.1 hok.2.2.2.2.1
    · show opnd (useOf o).1.x _ k = true
      rw [hok.2.1]; simp [opnd]; omega
    · show opnd (useOf o).1.y 0 k = true
      rw [hok.2.2.1]; rfl
  | bin o i e g x y =>
    have h1 := (hki (c := x) (.inl rfl)).1
    have h2 := (hki (c := y) (.inr rfl)).1
    refine nodeErr_zero (n := ⟨o, i, e, g, idx L x, idx L y⟩) hok.1 ?_ ?_ hok.2.2.1 hok.2.2.2.1
    · show opnd (useOf o).1.x _ k = true
      rw [useOf_yx o hok.2.1]; simp [opnd]; omega
    · show opnd (useOf o).1.y _ k = true
      rw [hok.2.1]; simp [opnd]; omega
theorem trAt_encL : ∀ (n k : Nat) (hk : k < L.length), k < n → trAt (encL L) k = L[k]
  | 0, _, _, h => absurd h (Nat.not_lt_zero _)
  | n + 1, k, hk, hkn => by
    have hw := encL_wf hn hc ho
    have hkl : k < (encL L).length := by simpa using hk
    have hnd : nth (encL L) k = ndOf L L[k] := by rw [nth_eq _ _ hkl]; exact encL_get hk
    have hok := ho _ (List.getElem_mem hk)
    have hki := @idx_kid L hn hc k hk
    rcases hL : L[k] with ⟨o, i, e, g⟩ | ⟨o, i, e, g, x⟩ | ⟨o, i, e, g, x, y⟩
    · rw [hL] at hnd hok
      rw [trAt_leaf hkl (by rw [hnd]; exact hok.2.1), hnd]; rfl
    · rw [hL] at hnd hok hki
      obtain ⟨h1, hm⟩ := hki (c := x) rfl
      rw [trAt_un hw hkl (by rw [hnd]; exact hok.2.1) (by rw [hnd]; exact hok.2.2.1), hnd]
      show Fm.un o i e g (trAt (encL L) ((idx L x : Int).toNat)) = _
      rw [Int.toNat_natCast, trAt_encL n (idx L x) (idx_lt hm) (by omega), getElem_idx hm]
    · rw [hL] at hnd hok hki
      obtain ⟨h1, hm1⟩ := hki (c := x) (.inl rfl)
      obtain ⟨h2, hm2⟩ := hki (c := y) (.inr rfl)
      rw [trAt_bin hw hkl (by rw [hnd]; exact hok.2.1), hnd]
      show Fm.bin o i e g (trAt (encL L) ((idx L x : Int).toNat)) (trAt (encL L) ((idx L y : Int).toNat)) = _
      rw [Int.toNat_natCast, Int.toNat_natCast, trAt_encL n (idx L x) (idx_lt hm1) (by omega), getElem_idx hm1, trAt_encL n (idx L y) (idx_lt hm2) (by omega), getElem_idx hm2]
end
theorem addT_ok (t : Fm) (ht : fok t) : (addT t []).Nodup ∧ Cl (addT t []) ∧ AllOk (addT t []) :=
  ⟨addT_nodup t List.nodup_nil, Cl.addT t Cl.nil, AllOk.addT t (fun _ h => by simp at h) ht⟩
theorem canon_wf (t : Fm) (ht : fok t) : Wf (canon t) := by
  obtain ⟨h1, h2, h3⟩ := addT_ok t ht
  exact encL_wf h1 h2 h3
theorem trAt_canon (t : Fm) (ht : fok t) : trAt (canon t) ((canon t).length - 1) = t := by
  obtain ⟨h1, h2, h3⟩ := addT_ok t ht
  have hp := fsize_pos t
  rw [canon_length]
  show trAt (encL (addT t [])) _ = t
  rw [trAt_encL h1 h2 h3 (fsize t) (fsize t - 1) (by unfold fsize at *; omega) (by omega)]
  exact canon_root t
theorem canon_check (t : Fm) (ht : fok t) (h : fsize t ≤ 200) : fCheck (canon t) = 0 :=
  fCheck_ok.2 ⟨by rw [canon_length]; exact fsize_pos t, by rw [canon_length]; exact h, canon_wf t ht⟩
theorem compact_canon (t : Fm) (ht : fok t) (h : fsize t ≤ 200) : fCompact (canon t) = canon t := by
  rw [(fCompact_of (canon_check t ht h)).1, trAt_canon t ht]
end Wt

/- Walks: wittingref13.All, Has, beyond, Check, SameSets, Few. -/
namespace Wt
open Go Go.RowKit Go.Proofs

/-- Is a world in a set? -/
def hasW (s : BitVec 64) (w : Int) : Bool := if 0 ≤ w then bt s w.toNat else false
/-- Nothing but draws. -/
def Qu (w w' : World) : Prop := ∃ m, w' = w.drewN m
theorem Qu.refl (w : World) : Qu w w := ⟨0, rfl⟩
theorem Qu.ext {w w' : World} (h : Qu w w') : Ext w w' := by obtain ⟨m, rfl⟩ := h; exact (Ext.refl w).drewN m
theorem Qu.drewN {a w : World} (h : Qu a w) (n : Nat) : Qu a (w.drewN n) := by obtain ⟨m, rfl⟩ := h; exact ⟨m + n, World.drewN_drewN ..⟩
theorem Qu.trans {a b c : World} (h : Qu a b) (k : Qu b c) : Qu a c := by obtain ⟨m, rfl⟩ := k; exact h.drewN m
end Wt
