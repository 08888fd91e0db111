/- Walks: math/bits.TrailingZeros64, model.members, model.pull. The first one asks that its table lies as the program's text lays it. -/
import Derived.Test.YtoacdccachhjdaaGreatDoorMAAi
import Derived.Deep.AppendLies
import Derived.Shelf.Spec.TrailingZeros
import Derived.Test.YtoacdccachhjdaaGreatDoorMAAa
import Derived.Deep.QuietTactic
import Derived.BigQuiet
import Derived.Test.YtoacdccachhjdaaGreatDoorMAAg
namespace Wt
open Go Go.RowKit Go.Maps Go.Proofs Fm

/-- The table that TrailingZeros64 reads. -/
def Tab (w : World) : Prop := TabAt 0 Lib.deBruijn64tab w
theorem Tab.ext {w w' : World} (h : Tab w) (e : Ext w w') : Tab w' := fun j hj => e.cell (h j hj)
set_option maxHeartbeats 1000000 in
theorem tz_core (x k idx : Nat) (w : World) (hx0 : ((x : Int) == 0) = false)
    (key : IntKind.u64.wrap (bits BinOp.and IntKind.u64 (x : Int) (IntKind.u64.wrap (-(x : Int))) * 285870213051353865) / 288230376151711744 = (idx : Int))
    (hi : idx < 64) (hk : k < 64) (hcell : w.cell? ⟨0, idx, none⟩ = some (.int .u8 (k : Int))) :
    Calls Tryz.prog 180 #[.int .u64 (x : Int)] w fun e w' => e = .returned (.int .i64 (k : Int)) ∧ w = w' := by
  go_enter Tryz.func180, Tryz.ntmps180
  go_wp2_with (simp only [key])
  go_ret
  exact ⟨rfl, rfl⟩
/-- The least world of a set. -/
def tz (S : BitVec 64) : Nat := Lib.ctz 64 S.toNat
theorem tz_any (S : BitVec 64) (hS : S ≠ 0#64) (w : World) (hT : Tab w) :
    Calls Tryz.prog 180 #[.int .u64 (un S)] w fun e w' => e = .returned (.int .i64 (tz S : Int)) ∧ w = w' := by
  have hx : S.toNat < 2 ^ 64 := S.isLt
  have hx0 : S.toNat ≠ 0 := fun h => hS (BitVec.eq_of_toNat_eq (by simpa using h))
  obtain ⟨hlow, hk⟩ := Lib.lowest_bit 64 S.toNat hx0 hx
  obtain ⟨hi, htab⟩ := Lib.deBruijn64_at _ hk
  have hcell := hT _ hi
  rw [htab] at hcell
  exact tz_core S.toNat _ _ w (by rw [beq_eq_false_iff_ne]; omega) (tz64_key S.toNat _ hx hx0 hlow) hi hk hcell
theorem tz_spec {S : BitVec 64} (hS : S ≠ 0#64) : tz S < 64 ∧ bt S (tz S) = true ∧ (∀ j, j < tz S → bt S j = false) ∧ ∀ j, bt (S &&& (S - 1#64)) j = (bt S j && decide (j ≠ tz S)) := by
  have hx : S.toNat < 2 ^ 64 := S.isLt
  have hx0 : S.toNat ≠ 0 := fun h => hS (BitVec.eq_of_toNat_eq (by simpa using h))
  obtain ⟨m, hm, hk⟩ := Lib.ctzFrom_spec 64 S.toNat (by omega) hx
  have ht : tz S = Lib.ctzFrom 64 S.toNat := by unfold tz Lib.ctz; rw [if_neg hx0]
  rw [← ht] at hm hk
  generalize tz S = k at *
  have hb : ∀ j, bt S j = (decide (k ≤ j) && (2 * m + 1).testBit (j - k)) := by
    intro j
    show S.getLsbD j = _
    rw [← BitVec.testBit_toNat, hm, Nat.mul_comm, Nat.testBit_mul_two_pow]
  have h1 : (S - 1#64).toNat = 2 ^ k * (2 * m) + (2 ^ k - 1) := by
    have hp : 0 < 2 ^ k := Nat.two_pow_pos k
    have e1 : 2 ^ k * (2 * m + 1) = 2 ^ k * (2 * m) + 2 ^ k := by rw [Nat.mul_add, Nat.mul_one]
    rw [BitVec.toNat_sub]
    simp only [BitVec.toNat_ofNat]
    omega
  have hb1 : ∀ j, bt (S - 1#64) j = if j < k then (2 ^ k - 1).testBit j else (2 * m).testBit (j - k) := by
    intro j
    show (S - 1#64).getLsbD j = _
    rw [← BitVec.testBit_toNat, h1, Nat.testBit_two_pow_mul_add _ (by have := Nat.two_pow_pos k; omega)]
  refine ⟨hk, ?_, fun j hj => ?_, fun j => ?_⟩
  · rw [hb]; simp [Nat.testBit_zero]
  · rw [hb]; simp; omega
  · rw [bt_and, hb1, hb]
    rcases Nat.lt_trichotomy j k with h | h | h
    · simp [show ¬ k ≤ j by omega]
    · subst h; simp [Nat.testBit_zero]
    · obtain ⟨i, hi⟩ : ∃ i, j - k = i + 1 := ⟨j - k - 1, by omega⟩
      rw [if_neg (by omega), hi, Nat.testBit_succ, Nat.testBit_succ]
      have d1 : (2 * m + 1) / 2 = m := by omega
      have d2 : 2 * m / 2 = m := by omega
      rw [d1, d2]
      have d3 : k ≤ j := by omega
      have d4 : j ≠ k := by omega
      simp [d3, d4]
/-- The worlds of a set, in ascending order. -/
def memL (s : BitVec 64) : List Nat := (List.range 64).filter (bt s)
theorem memL_zero : memL 0#64 = [] := by
  unfold memL
  rw [List.filter_eq_nil_iff]
  intro a _
  simp [bt_zero]
theorem memL_step {S : BitVec 64} (hS : S ≠ 0#64) : memL S = tz S :: memL (S &&& (S - 1#64)) := by
  obtain ⟨hk, h1, h2, h3⟩ := tz_spec hS
  generalize tz S = c at *
  have e : List.range 64 = List.range c ++ (c :: List.range' (c + 1) (63 - c)) := by
    rw [List.range_eq_range', List.range_eq_range', ← List.range'_succ]
    have := List.range'_append_1 (s := 0) (m := c) (n := 63 - c + 1)
    rw [Nat.zero_add] at this
    rw [this]
    congr 1; omega
  unfold memL
  rw [e, List.filter_append, List.filter_append]
  have f1 : (List.range c).filter (bt S) = [] := by
    rw [List.filter_eq_nil_iff]; intro a ha; rw [h2 a (List.mem_range.1 ha)]; simp
  have f2 : (List.range c).filter (bt (S &&& (S - 1#64))) = [] := by
    rw [List.filter_eq_nil_iff]; intro a ha; rw [h3, h2 a (List.mem_range.1 ha)]; simp
  rw [f1, f2, List.nil_append, List.nil_append, List.filter_cons_of_pos h1, List.filter_cons_of_neg (by rw [h3]; simp)]
  congr 1
  apply List.filter_congr
  intro a ha
  rw [List.mem_range'_1] at ha
  rw [h3]
  have : a ≠ c := by omega
  simp [this]
theorem mem_memL {s : BitVec 64} {k : Nat} : k ∈ memL s ↔ k < 64 ∧ bt s k = true := by simp [memL]
theorem memL_len (s : BitVec 64) : (memL s).length ≤ 64 := by
  have := List.length_filter_le (bt s) (List.range 64)
  simpa [memL] using this

section
variable {α : Type} {enc : α → Value} {T : Nat} {w0 wr W1 : World} {l : List α} {v v' : Value}
/-- A slice of elements of one cell that the call has made by appending. -/
structure GL (w0 : World) (T : Nat) (enc : α → Value) (l : List α) (v : Value) (wr : World) : Prop where
  e : Ext w0 wr
  own : wr.ownsRow w0.heap.size T 1 v l.length (l.map enc)
theorem GL.ext' {w' : World} (h : GL w0 T enc l v wr) (e : Ext wr w') : GL w0 T enc l v w' :=
  ⟨h.e.trans e, h.own.kept (row := none) ⟨e.os, e.tape, e.output, e.size, fun k hk _ => e.block k hk⟩ (by cases v.ownBlock <;> simp)⟩
theorem GL.push (h : GL w0 T enc l v wr) {x : α} (ho : W1.ownsRow w0.heap.size T 1 v' (l.length + 1) (l.map enc ++ [enc x])) (g : wr.grownBy W1 v.ownBlock) : GL w0 T enc (l ++ [x]) v' W1 := by
  refine ⟨ext_of_grown h.e g (fun b hb => (h.own.lt b hb).1), ?_⟩
  rw [List.map_append, List.length_append]
  exact ho
end
theorem int_info : (Tryz.prog.info? 3).map (fun i => (i.zero, i.size, i.bytes)) = some (some (.int .i64 0), 1, 8) := by kernel_rfl
def iv (n : Int) : Value := .int .i64 n
def natI (l : List Nat) : List Int := l.map fun n : Nat => (n : Int)
theorem nth_natI {l : List Nat} {k : Nat} (h : k < l.length) : nth (natI l) k = ((nth l k : Nat) : Int) := by
  rw [nth_eq _ _ (by simpa [natI] using h), nth_eq _ _ h]; simp [natI]
theorem RI_of_own {wr : World} {B : Nat} {l : List Int} {v : Value} (h : wr.ownsRow B 3 1 v l.length (l.map iv)) (hl : l.length ≤ 140737488355328) : ∃ a c, v = .slice a l.length c ∧ RI wr a l := by
  rcases h.2 with ⟨rfl, h0⟩ | ⟨g, cap, cur, rfl, hb, hg, hnc, hcm, hcs, htake⟩
  · have : l = [] := List.eq_nil_of_length_eq_zero h0
    subst this
    exact ⟨none, 0, rfl, RI.nil _ _⟩
  · refine ⟨some ⟨g, 0, none⟩, cap, rfl, hl, fun k hk => ⟨g, 0, rfl, ?_⟩⟩
    rw [cell_of_row wr g _ cur _ (0, 0) hg, Nat.zero_add]
    have h1 : (l.map iv)[k]? = some (iv (nth l k)) := by rw [List.getElem?_map, nth_eq l k hk]; simp [hk]
    rw [← htake, List.getElem?_take, if_pos (by omega)] at h1
    simpa [iv] using h1
/-- Two worlds agree from a block on. -/
def Agree (B : Nat) (w' w'' : World) : Prop := ∀ k, B ≤ k → k < w'.heap.size → w''.heap[k]? = w'.heap[k]?
theorem Agree.mono {B B' : Nat} {w' w'' : World} (h : Agree B w' w'') (hb : B ≤ B') : Agree B' w' w'' := fun k hk hl => h k (by omega) hl
theorem own_agree {w w'' : World} {B T sz n : Nat} {v : Value} {xs : List Value} (h : w.ownsRow B T sz v n xs) (ha : Agree B w w'') : w''.ownsRow B T sz v n xs := by
  refine ⟨h.1, ?_⟩
  rcases h.2 with h0 | ⟨g, cap, cur, e, hb, hg, hr⟩
  · exact .inl h0
  · exact .inr ⟨g, cap, cur, e, hb, by rw [ha g hb (Array.getElem?_eq_some_iff.1 hg).1]; exact hg, hr⟩
/-- A list of numbers that the call has made: it reads so in every world that agrees from the call's first block on. -/
def RetI (l : List Int) (e : Ending) (w w' : World) : Prop := ∃ a c, e = .returned (.slice a l.length c) ∧ (∀ w'', Agree w.heap.size w' w'' → RI w'' a l) ∧ Ext w w'
/-- The rounds of members. -/
structure MemAt (w : World) (s S : BitVec 64) (L : List Nat) (v : Value) (wr : World) : Prop where
  eq : memL s = L ++ memL S
  own : GL w 3 iv (natI L) v wr
def MemE (w : World) (s : BitVec 64) (sv v : Value) (wr : World) : Prop := ∃ S L, sv = .int .u64 (un S) ∧ MemAt w s S L v wr
set_option maxRecDepth 20000 in
set_option maxHeartbeats 2000000 in
theorem members_any (s : BitVec 64) (w : World) (hT : Tab w) :
    Calls Tryz.prog 148 #[.int .u64 (un s)] w fun e w' => RetI (natI (memL s)) e w w' := by
  have HT := Lib.hid hT
  clear hT
  obtain ⟨i0, hi1, hz0, hz1, hz2⟩ := info_parts int_info
  go_enter Tryz.func148, Tryz.ntmps148
  go_wp2
  go_loopw [0, 3] (fun sv v wr => MemE w s sv v wr) (fun sv _ _ => bvOf sv)
  case atStart => exact ⟨s, [], rfl, by simp, Ext.refl _, World.ownsRow_nil _ _ _ _⟩
  case round =>
    obtain ⟨S, L, rfl, hM⟩ := hrel
    have HM := Lib.hid hM
    by_cases hS : S = 0#64
    · have h2 : natI L = natI (memL s) := by rw [hM.eq, hS, memL_zero, List.append_nil]
      have hlen := memL_len s
      have hlen2 : (natI L).length ≤ 140737488355328 := by rw [h2]; simp [natI]; omega
      obtain ⟨a, c, hv, -⟩ := RI_of_own hM.own.own hlen2
      have hu : ∀ w'', Agree w.heap.size wr w'' → RI w'' a (natI L) := fun w'' ha => by
        obtain ⟨a', c', hv', hu'⟩ := RI_of_own (own_agree hM.own.own ha) hlen2
        rw [hv] at hv'
        simp only [Value.slice.injEq] at hv'
        obtain ⟨rfl, -, -⟩ := hv'
        exact hu'
      have hq : (S != 0#64) = false := by simp [hS]
      have HU := Lib.hid hu
      have HV := Lib.hid hv
      have H2 := Lib.hid h2
      clear hM hu hv hS h2 hlen hlen2
      go_wp2
      go_ret
      exact ⟨a, c, by rw [HV.out, H2.out]; rfl, by rw [← H2.out]; exact HU.out, HM.out.own.e⟩
    · have hq : (S != 0#64) = true := by simp [hS]
      have hst := memL_step hS
      have hlt : (S &&& (S - 1#64)).toNat < S.toNat := by
        refine sub_toNat_lt (fun k hk h => ?_) (fun e => ?_)
        · rw [bt_and, Bool.and_eq_true] at h; exact h.1
        · have h3 := (tz_spec hS).2.2.2 (tz S)
          rw [e, (tz_spec hS).2.1] at h3; simp at h3
      have hL : L.length ≤ 64 := by
        have h3 := memL_len s
        rw [hM.eq, List.length_append] at h3; omega
      have hNX : memL s = (L ++ [tz S]) ++ memL (S &&& (S - 1#64)) := by rw [hM.eq, hst]; simp
      have HNX := Lib.hid hNX
      have HLT := Lib.hid hlt
      have hll : (natI L).length = L.length := by simp [natI]
      have HO : Hid (∀ o, (wr.alloc o).ownsRow w.heap.size 3 1 u3 (natI L).length ((natI L).map iv)) := fun o => (HM.out.own.ext' ((Ext.refl wr).alloc o)).own
      have HPA : Hid (∀ o, GL w 3 iv (natI L) u3 (wr.alloc o)) := fun o => HM.out.own.ext' ((Ext.refl wr).alloc o)
      have HONE : Hid (∀ u ∈ [Value.int .i64 (tz S : Int)], u.oneCell' = true) := fun u hu => by
        rcases List.mem_singleton.1 hu with rfl
        rfl
      have hsz1 : w.heap.size ≤ wr.heap.size := HM.out.own.e.size
      have HTr : Hid (Tab wr) := HT.out.ext HM.out.own.e
      have HS := Lib.hid hS
      clear hM hst hlt hNX hS
      go_wp2_with (first | (go_at_call 180; refine (tz_any S HS.out _ HTr.out).mono ?_; rintro _ _ ⟨rfl, rfl⟩) | (at_builtin; refine wpList_append_lies _ rfl _ _ 22 rfl w.heap.size 3 i0 _ 1 8 Tryz.underlying22 hi1 hz0 hz1 hz2 rfl (by decide) u3 (natI L).length _ rfl (HO.out _) ⟨wr.heap.size, 0, none⟩ 1 1 [.int .i64 (tz S : Int)] rfl rfl (cell_one_new _ _ _) HONE.out (by decide) (by unfold maxLen; omega) (by omega) (Nat.le_trans hsz1 (by simp)) (wr.heap.size + 1) (by simp) ?_; intro gx cap W1 hown hgrow hat hlt2; have hpush := (HPA.out _).push (x := (tz S : Int)) hown hgrow; have HPU := Lib.hid hpush; clear hpush hown hgrow hat))
      go_roundw
      case rel => exact ⟨S &&& (S - 1#64), L ++ [tz S], rfl, HNX.out, by have := HPU.out; simpa [natI] using this⟩
      case measure => rw [bvOf_un, bvOf_un]; exact HLT.out

/-! model.pull. -/
def pullK (s : BitVec 64) (ws : List Nat) : Nat → BitVec 64
  | 0 => 0#64
  | k + 1 => pullK s ws k ||| ((s >>> nth ws k &&& 1#64) <<< k)
def pullL (s : BitVec 64) (ws : List Nat) : BitVec 64 := pullK s ws ws.length
theorem bt_pullK (s : BitVec 64) (ws : List Nat) {k : Nat} (hk : k < 64) : ∀ m, m ≤ 64 → bt (pullK s ws m) k = (decide (k < m) && bt s (nth ws k))
  | 0, _ => by simp [pullK, bt_zero]
  | m + 1, hm => by
    have ih := bt_pullK s ws hk m (by omega)
    have e : bt ((s >>> nth ws m &&& 1#64) <<< m) k = (decide (k = m) && bt s (nth ws m)) := by
      simp only [bt, BitVec.getLsbD_shiftLeft, BitVec.getLsbD_and, BitVec.getLsbD_ushiftRight, BitVec.getLsbD_one]
      by_cases h : k = m
      · subst h; simp [hk]
      · by_cases h2 : k < m
        · simp [h, h2]
        · have : ¬ (k - m = 0) := by omega
          simp [h, this]
    unfold pullK
    rw [bt_or, ih, e]
    by_cases h : k = m
    · subst h; simp
    · have : (decide (k < m + 1)) = decide (k < m) := by simp; omega
      rw [this]; simp [h]
theorem bt_pullL (s : BitVec 64) (ws : List Nat) (hw : ws.length ≤ 64) (k : Nat) : bt (pullL s ws) k = (decide (k < ws.length) && bt s (nth ws k)) := by
  by_cases hk : k < 64
  · exact bt_pullK s ws hk _ hw
  · have h1 : bt (pullL s ws) k = false := BitVec.getLsbD_of_ge _ _ (by omega)
    rw [h1]; simp; omega
set_option maxHeartbeats 1000000 in
theorem pull_any (s : BitVec 64) (ws : List Nat) (a : Option Addr) (c : Nat) (w : World) (hr : RI w a (natI ws)) :
    Calls Tryz.prog 181 #[.int .u64 (un s), .slice a ws.length c] w fun e w' => e = .returned (.int .u64 (un (pullL s ws))) ∧ w = w' := by
  have hl := hr.len
  have hll : (natI ws).length = ws.length := by simp [natI]
  rw [hll] at hl
  have HR := Lib.hid hr
  clear hr
  go_enter Tryz.func181, Tryz.ntmps181
  go_wp2
  go_loop [5, 10] (fun o i => ∃ k : Nat, k ≤ ws.length ∧ i = .int .i64 (k : Int) ∧ o = .int .u64 (un (pullK s ws k))) (fun _ i => ws.length - (intOf i).toNat)
  case atStart => exact ⟨0, Nat.zero_le _, rfl, rfl⟩
  case round =>
    obtain ⟨k, hk, rfl, rfl⟩ := hrel
    by_cases hlt : k < ws.length
    · obtain ⟨b, off, rfl, hb, hc⟩ := HR.out.get (k := k) (by omega)
      rw [nth_natI hlt] at hc
      go_wp2
      go_round
      case rel => exact ⟨k + 1, hlt, by go_num, rfl⟩
      case measure => simp [intOf]; omega
    · obtain rfl : k = ws.length := by omega
      go_wp2
      go_ret
      exact ⟨rfl, rfl⟩
end Wt

/- Plain laws: the canonical list of a tree is right, and its last node is the tree. -/
namespace Wt
open Fm

theorem mem_put {s t : Fm} {L : List Fm} : s ∈ put t L ↔ s ∈ L ∨ s = t := by
  unfold put; split
  · rename_i h
    exact ⟨.inl, fun h2 => h2.elim id (fun e => e ▸ h)⟩
  · simp
/-- A formula that a tree contains. -/
def sbt (s : Fm) : Fm → Prop
  | .leaf o i e g => s = .leaf o i e g
  | .un o i e g x => s = .un o i e g x ∨ sbt s x
  | .bin o i e g x y => s = .bin o i e g x y ∨ sbt s x ∨ sbt s y
theorem mem_addT {s : Fm} : ∀ (t : Fm) (L : List Fm), s ∈ addT t L ↔ s ∈ L ∨ sbt s t
  | .leaf .., L => mem_put
  | .un o i e g x, L => by
    show s ∈ put _ _ ↔ _
    rw [mem_put, mem_addT x L]
    simp only [sbt]
    constructor
    · rintro ((h | h) | h)
      · exact .inl h
      · exact .inr (.inr h)
      · exact .inr (.inl h)
    · rintro (h | h | h)
      · exact .inl (.inl h)
      · exact .inr h
      · exact .inl (.inr h)
  | .bin o i e g x y, L => by
    show s ∈ put _ _ ↔ _
    rw [mem_put, mem_addT y, mem_addT x]
    simp only [sbt]
    constructor
    · rintro (((h | h) | h) | h)
      · exact .inl h
      · exact .inr (.inr (.inl h))
      · exact .inr (.inr (.inr h))
      · exact .inr (.inl h)
    · rintro (h | h | h | h)
      · exact .inl (.inl (.inl h))
      · exact .inr h
      · exact .inl (.inl (.inr h))
      · exact .inl (.inr h)
theorem sbt_size {s : Fm} : ∀ (t : Fm), sbt s t → s.size ≤ t.size
  | .leaf .., h => by rw [show s = _ from h]; exact Nat.le_refl _
  | .un o i e g x, h => by
    rcases h with rfl | h
    · exact Nat.le_refl _
    · have := sbt_size x h; simp [size]; omega
  | .bin o i e g x y, h => by
    rcases h with rfl | h | h
    · exact Nat.le_refl _
    · have := sbt_size x h; simp [size]; omega
    · have := sbt_size y h; simp [size]; omega
theorem sbt_refl (t : Fm) : sbt t t := by cases t <;> simp [sbt]
/-- The tree itself comes last. -/
theorem addT_last (t : Fm) : ∃ M, addT t [] = M ++ [t] := by
  cases t with
  | leaf o i e g => exact ⟨[], by simp [addT, put]⟩
  | un o i e g x =>
    refine ⟨addT x [], ?_⟩
    have hn : Fm.un o i e g x ∉ addT x [] := fun h => by
      have := sbt_size x (((mem_addT x []).1 h).elim (fun h => by simp at h) id)
      simp [size] at this; omega
    show put _ _ = _
    unfold put; rw [if_neg hn]
  | bin o i e g x y =>
    refine ⟨addT y (addT x []), ?_⟩
    have hn : Fm.bin o i e g x y ∉ addT y (addT x []) := fun h => by
      rcases (mem_addT y _).1 h with h | h
      · have := sbt_size x (((mem_addT x []).1 h).elim (fun h => by simp at h) id)
        simp [size] at this; omega
      · have := sbt_size y h
        simp [size] at this; omega
    show put _ _ = _
    unfold put; rw [if_neg hn]
theorem fsize_pos (t : Fm) : 0 < fsize t := by
  obtain ⟨M, h⟩ := addT_last t
  unfold fsize; rw [h]; simp
theorem canon_root (t : Fm) : (addT t [])[fsize t - 1]'(by have := fsize_pos t; unfold fsize at *; omega) = t := by
  obtain ⟨M, h⟩ := addT_last t
  have e : fsize t - 1 = M.length := by unfold fsize; rw [h]; simp
  simp only [h, e]
  simp
section
variable {L : List Fm} (hn : L.Nodup) (hc : Cl L) (ho : AllOk L)
include hn hc
theorem idx_kid {k : Nat} (hk : k < L.length) {c : Fm} (h : kid c L[k]) : idx L c < k ∧ c ∈ L := by
  obtain ⟨j, hj, e⟩ := hc k hk c h
  have hjl : j < L.length := by omega
  have : idx L c = j := by rw [← e]; exact idx_getElem hn hjl
  exact ⟨by omega, e ▸ List.getElem_mem hjl⟩
include ho
theorem encL_wf : Wf (encL L) := by
  intro k hk
  have hkl : k < L.length := by simpa using hk
  rw [nth_eq _ _ hk, encL_get hkl]
  have hok := ho _ (List.getElem_mem hkl)
  have hki := @idx_kid L hn hc k hkl
  generalize L[k] = t at hok hki
  cases t with
  | leaf o i e g =>
    refine nodeErr_zero (n := ⟨o, i, e, g, 0, 0⟩) hok.1 ?_ ?_ hok.2.2.1 hok.2.2.2
    · show opnd (useOf o).1.x 0 k = true
      rw [hok.2.1]; rfl
    · show opnd (useOf o).1.y 0 k = true
      have hy : (useOf o).1.y = false := by
        cases hy : (useOf o).1.y
        · rfl
        · have := useOf_yx o hy; rw [hok.2.1] at this; cases this
      rw [hy]; rfl
  | un o i e g x =>
    have h1 := (hki (c := x) rfl).1
    refine nodeErr_zero (n := ⟨o, i, e, g, idx L x, 0⟩) hok.1 ?_ ?_ hok.2.2.2.1 hok.2.2.2.2.1
    · show opnd (useOf o).1.x _ k = true
      rw [hok.2.1]; simp [opnd]; omega
    · show opnd (useOf o).1.y 0 k = true
      rw [hok.2.2.1]; rfl
  | bin o i e g x y =>
    have h1 := (hki (c := x) (.inl rfl)).1
    have h2 := (hki (c := y) (.inr rfl)).1
    refine nodeErr_zero (n := ⟨o, i, e, g, idx L x, idx L y⟩) hok.1 ?_ ?_ hok.2.2.1 hok.2.2.2.1
    · show opnd (useOf o).1.x _ k = true
      rw [useOf_yx o hok.2.1]; simp [opnd]; omega
    · show opnd (useOf o).1.y _ k = true
      rw [hok.2.1]; simp [opnd]; omega
theorem trAt_encL : ∀ (n k : Nat) (hk : k < L.length), k < n → trAt (encL L) k = L[k]
  | 0, _, _, h => absurd h (Nat.not_lt_zero _)
  | n + 1, k, hk, hkn => by
    have hw := encL_wf hn hc ho
    have hkl : k < (encL L).length := by simpa using hk
    have hnd : nth (encL L) k = ndOf L L[k] := by rw [nth_eq _ _ hkl]; exact encL_get hk
    have hok := ho _ (List.getElem_mem hk)
    have hki := @idx_kid L hn hc k hk
    rcases hL : L[k] with ⟨o, i, e, g⟩ | ⟨o, i, e, g, x⟩ | ⟨o, i, e, g, x, y⟩
    · rw [hL] at hnd hok
      rw [trAt_leaf hkl (by rw [hnd]; exact hok.2.1), hnd]; rfl
    · rw [hL] at hnd hok hki
      obtain ⟨h1, hm⟩ := hki (c := x) rfl
      rw [trAt_un hw hkl (by rw [hnd]; exact hok.2.1) (by rw [hnd]; exact hok.2.2.1), hnd]
      show Fm.un o i e g (trAt (encL L) ((idx L x : Int).toNat)) = _
      rw [Int.toNat_natCast, trAt_encL n (idx L x) (idx_lt hm) (by omega), getElem_idx hm]
    · rw [hL] at hnd hok hki
      obtain ⟨h1, hm1⟩ := hki (c := x) (.inl rfl)
      obtain ⟨h2, hm2⟩ := hki (c := y) (.inr rfl)
      rw [trAt_bin hw hkl (by rw [hnd]; exact hok.2.1), hnd]
      show Fm.bin o i e g (trAt (encL L) ((idx L x : Int).toNat)) (trAt (encL L) ((idx L y : Int).toNat)) = _
      rw [Int.toNat_natCast, Int.toNat_natCast, trAt_encL n (idx L x) (idx_lt hm1) (by omega), getElem_idx hm1, trAt_encL n (idx L y) (idx_lt hm2) (by omega), getElem_idx hm2]
end
theorem addT_ok (t : Fm) (ht : fok t) : (addT t []).Nodup ∧ Cl (addT t []) ∧ AllOk (addT t []) :=
  ⟨addT_nodup t List.nodup_nil, Cl.addT t Cl.nil, AllOk.addT t (fun _ h => by simp at h) ht⟩
theorem canon_wf (t : Fm) (ht : fok t) : Wf (canon t) := by
  obtain ⟨h1, h2, h3⟩ := addT_ok t ht
  exact encL_wf h1 h2 h3
theorem trAt_canon (t : Fm) (ht : fok t) : trAt (canon t) ((canon t).length - 1) = t := by
  obtain ⟨h1, h2, h3⟩ := addT_ok t ht
  have hp := fsize_pos t
  rw [canon_length]
  show trAt (encL (addT t [])) _ = t
  rw [trAt_encL h1 h2 h3 (fsize t) (fsize t - 1) (by unfold fsize at *; omega) (by omega)]
  exact canon_root t
theorem canon_check (t : Fm) (ht : fok t) (h : fsize t ≤ 200) : fCheck (canon t) = 0 :=
  fCheck_ok.2 ⟨by rw [canon_length]; exact fsize_pos t, by rw [canon_length]; exact h, canon_wf t ht⟩
theorem compact_canon (t : Fm) (ht : fok t) (h : fsize t ≤ 200) : fCompact (canon t) = canon t := by
  rw [(fCompact_of (canon_check t ht h)).1, trAt_canon t ht]
end Wt

/- Walks: wittingref13.All, Has, beyond, Check, SameSets, Few. -/
namespace Wt
open Go Go.RowKit Go.Proofs

set_option maxHeartbeats 1000000 in
theorem r13All_any (n : Nat) (w : World) :
    Calls Tryz.prog 114 #[.int .i64 (n : Int)] w fun e w' => e = .returned (.int .u64 (un (allW n))) ∧ w = w' := by
  by_cases h : 64 ≤ n
  · go_enter Tryz.func114, Tryz.ntmps114
    go_wp2
    go_ret
    exact ⟨by simp [allW, h, un_max], rfl⟩
  · go_enter Tryz.func114, Tryz.ntmps114
    go_wp2
    go_ret
    exact ⟨by simp [allW, h], rfl⟩
/-- Is a world in a set? -/
def hasW (s : BitVec 64) (w : Int) : Bool := if 0 ≤ w then bt s w.toNat else false
set_option maxHeartbeats 1000000 in
theorem r13Has_any (s : BitVec 64) (i : Int) (w : World) :
    Calls Tryz.prog 155 #[.int .u64 (un s), .int .i64 i] w fun e w' => e = .returned (.bool (hasW s i)) ∧ w = w' := by
  by_cases h0 : 0 ≤ i
  · obtain ⟨n, rfl⟩ := Int.eq_ofNat_of_zero_le h0
    by_cases h1 : n < 64
    · go_enter Tryz.func155, Tryz.ntmps155
      go_wp2
      go_ret
      exact ⟨by simp [hasW], rfl⟩
    · have h2 : bt s n = false := BitVec.getLsbD_of_ge _ _ (by omega)
      have H2 := Lib.hid h2
      clear h2
      go_enter Tryz.func155, Tryz.ntmps155
      go_wp2
      go_ret
      exact ⟨by simp [hasW, H2.out], rfl⟩
  · go_enter Tryz.func155, Tryz.ntmps155
    go_wp2
    go_ret
    refine ⟨?_, rfl⟩
    unfold hasW
    rw [if_neg (by omega)]
    rfl
/-- Nothing but draws. -/
def Qu (w w' : World) : Prop := ∃ m, w' = w.drewN m
theorem Qu.refl (w : World) : Qu w w := ⟨0, rfl⟩
theorem Qu.ext {w w' : World} (h : Qu w w') : Ext w w' := by obtain ⟨m, rfl⟩ := h; exact (Ext.refl w).drewN m
theorem Qu.drewN {a w : World} (h : Qu a w) (n : Nat) : Qu a (w.drewN n) := by obtain ⟨m, rfl⟩ := h; exact ⟨m + n, World.drewN_drewN ..⟩
theorem Qu.trans {a b c : World} (h : Qu a b) (k : Qu b c) : Qu a c := by obtain ⟨m, rfl⟩ := k; exact h.drewN m
set_option maxHeartbeats 1000000 in
theorem r13beyond_any (n : Nat) (a : Option Addr) (l : List (BitVec 64)) (cap : Nat) (w : World) (hr : RU w a l) :
    Calls Tryz.prog 110 #[.slice a l.length cap, .int .i64 (n : Int)] w fun e w' => e = .returned (.bool (outL n l)) ∧ Qu w w' := by
  have hl := hr.len
  go_enter Tryz.func110, Tryz.ntmps110
  go_wp2
  go_loopw [5] (fun i wr => ∃ k : Nat, k ≤ l.length ∧ i = .int .i64 k ∧ Qu w wr ∧ Hid (∀ j, j < k → outOne n (nth l j) = false)) (fun i _ => l.length - (intOf i).toNat)
  case atStart => exact ⟨0, Nat.zero_le _, rfl, Qu.refl _, fun _ h => absurd h (Nat.not_lt_zero _)⟩
  case round =>
    obtain ⟨k, hk, rfl, hE, hno⟩ := hrel
    by_cases hlt : k < l.length
    · obtain ⟨b, off, rfl, hb, hc⟩ := (hr.ext hE.ext).get hlt
      go_wp2_with fail
      go_quiet ((go_at_call 114; exact Calls.quiet_of_same ((r13All_any _ _).mono fun _ _ h => ⟨h.1, h.2.symm⟩)))
      go_wp2
      · go_ret
        have : outL n l = true := any_yes hlt (by assumption)
        exact ⟨by rw [this]; rfl, hE.drewN _⟩
      · go_roundw
        case rel => exact ⟨k + 1, hlt, by go_num, hE.drewN _, lt_step hno (by assumption)⟩
        case measure => simp [intOf]; omega
    · go_wp2
      go_ret
      have : outL n l = false := any_no (fun j hj => hno j (by omega))
      exact ⟨by rw [this]; rfl, hE⟩
set_option maxHeartbeats 2000000 in
theorem r13Check_any (M : Mo) (va ra : Option Addr) (vc rc : Nat) (w : World) (hr : RM w va ra M) :
    Calls Tryz.prog 75 #[.agg #[.int .i64 M.worlds, .slice va M.val.length vc, .slice ra M.rel.length rc]] w fun e w' =>
      e = .returned (.int .i64 (moCheck M)) ∧ Ext w w' := by
  obtain ⟨W, V, R⟩ := M
  have hv := hr.val
  have hR := hr.rel
  have hvl := hv.len
  have hrl := hR.len
  clear hr
  dsimp only at *
  by_cases h1 : W < 1
  · have hn : moCheck ⟨W, V, R⟩ = 2 := by unfold moCheck; rw [if_pos (by simp [h1])]
    have HN := Lib.hid hn
    clear hn
    go_enter Tryz.func75, Tryz.ntmps75
    go_wp2
    go_ret
    exact ⟨by rw [HN.out]; rfl, (Ext.refl w).alloc _⟩
  · by_cases h2 : 64 < W
    · have hn : moCheck ⟨W, V, R⟩ = 2 := by unfold moCheck; rw [if_pos (by simp [h2])]
      have HN := Lib.hid hn
      clear hn
      go_enter Tryz.func75, Tryz.ntmps75
      go_wp2
      go_ret
      exact ⟨by rw [HN.out]; rfl, (Ext.refl w).alloc _⟩
    · obtain ⟨n, rfl⟩ := Int.eq_ofNat_of_zero_le (show 0 ≤ W by omega)
      by_cases h3 : 4 < R.length
      · have hn : moCheck ⟨n, V, R⟩ = 8 := by unfold moCheck; rw [if_neg (by simp; omega), if_pos (by simp [h3])]
        have HN := Lib.hid hn
        clear hn
        go_enter Tryz.func75, Tryz.ntmps75
        go_wp2
        go_ret
        exact ⟨by rw [HN.out]; rfl, (Ext.refl w).alloc _⟩
      · by_cases h4 : 8 < V.length
        · have hn : moCheck ⟨n, V, R⟩ = 8 := by unfold moCheck; rw [if_neg (by simp; omega), if_pos (by simp [h4])]
          have HN := Lib.hid hn
          clear hn
          go_enter Tryz.func75, Tryz.ntmps75
          go_wp2
          go_ret
          exact ⟨by rw [HN.out]; rfl, (Ext.refl w).alloc _⟩
        · have hn : moCheck ⟨n, V, R⟩ = if R.any (fun r => (r.length : Int) != n) then 3 else if outL n V || R.any (outL n) then 2 else 0 := by
            unfold moCheck; rw [if_neg (by simp; omega), if_neg (by simp; omega)]; simp
          have HN := Lib.hid hn
          clear hn
          go_enter Tryz.func75, Tryz.ntmps75
          go_wp2
          go_loopw [3] (fun i wr => ∃ k : Nat, k ≤ R.length ∧ i = .int .i64 k ∧ Ext (w.alloc (.cells #[.int .i64 (n : Int), .slice va V.length vc, .slice ra R.length rc] 28)) wr ∧ Hid (∀ j, j < k → (((nth R j).length : Int) != n) = false)) (fun i _ => R.length - (intOf i).toNat)
          case atStart => exact ⟨0, Nat.zero_le _, rfl, Ext.refl _, fun _ h => absurd h (Nat.not_lt_zero _)⟩
          case round =>
            obtain ⟨k, hk, rfl, hE, hno⟩ := hrel
            obtain ⟨hc1, hf1, hs1⟩ := hE.rules
            have hE0 : Ext w wr := ((Ext.refl w).alloc _).trans hE
            by_cases hlt : k < R.length
            · obtain ⟨b, off, a', c', rfl, hb, hc, hu⟩ := hR.get hlt
              have hul := hu.len
              by_cases hq : (((nth R k).length : Int) != n) = true
              · go_wp2
                go_quiet (fail)
                go_wp2
                go_ret
                refine ⟨?_, hE0.drewN _⟩
                rw [HN.out, any_yes hlt hq]; rfl
              · have hq' : (((nth R k).length : Int) != n) = false := by simpa using hq
                clear hq
                go_wp2
                go_quiet (fail)
                go_wp2
                go_roundw
                case rel => exact ⟨k + 1, hlt, by go_num, hE.drewN _, lt_step hno hq'⟩
                case measure => simp [intOf]; omega
            · have hno2 : R.any (fun r => (r.length : Int) != n) = false := any_no (fun j hj => hno j (by omega))
              have HN2 := Lib.hid hno2
              clear hno2 hno
              have hv0 := hv.ext hE0
              have HE0 := Lib.hid hE0
              clear hE0
              go_wp2_with (go_at_call 110; refine (r13beyond_any _ _ _ _ _ hv0).mono ?_; rintro e w1 ⟨rfl, hE1q⟩; have hE1 := hE1q.ext; clear hE1q; obtain ⟨hc2, hf2, hs2⟩ := hE1.rules; cases hq : outL n V)
              · have HQ := Lib.hid hq
                clear hq
                go_loopw [4] (fun i wq => ∃ k : Nat, k ≤ R.length ∧ i = .int .i64 k ∧ Ext w1 wq ∧ Hid (∀ j, j < k → outL n (nth R j) = false)) (fun i _ => R.length - (intOf i).toNat)
                case atStart => exact ⟨0, Nat.zero_le _, rfl, Ext.refl _, fun _ h => absurd h (Nat.not_lt_zero _)⟩
                case round =>
                  obtain ⟨k2, hk2, rfl, hE2, hno2⟩ := hrel
                  clear hc1 hf1 hs1 hc2 hf2 hs2
                  obtain ⟨m0, m1, m2⟩ := (MoBox.new w n V R va vc ra rc 28).ext ((hE.trans hE1).trans hE2)
                  have HE3 := Lib.hid ((HE0.out.trans hE1).trans hE2)
                  by_cases hlt2 : k2 < R.length
                  · obtain ⟨b, off, a', c', rfl, hb, hc, hu2⟩ := (hR.ext HE3.out).get hlt2
                    have hul := hu2.len
                    go_wp2_with fail
                    go_quiet ((go_at_call 110; exact Calls.quiet_of (r13beyond_any _ _ _ _ _ (hu2.ext ((Ext.refl _).drewN _)))))
                    cases hq : outL n (nth R k2)
                    · have HQ2 := Lib.hid hq
                      clear hq
                      go_wp2
                      go_roundw
                      case rel => exact ⟨k2 + 1, hlt2, by go_num, hE2.drewN _, lt_step hno2 HQ2.out⟩
                      case measure => simp [intOf]; omega
                    · have HQ2 := Lib.hid hq
                      clear hq
                      go_wp2
                      go_ret
                      exact ⟨by rw [HN.out, HN2.out, any_yes hlt2 HQ2.out]; simp, HE3.out.drewN _⟩
                  · have hno3 : R.any (outL n) = false := any_no (fun j hj => hno2 j (by omega))
                    have HN3 := Lib.hid hno3
                    clear hno2 hno3
                    go_wp2
                    go_ret
                    exact ⟨by rw [HN.out, HN2.out, HN3.out, HQ.out]; simp, HE3.out⟩
              · go_ret
                exact ⟨by rw [HN.out, HN2.out]; simp [*], HE0.out.trans hE1⟩
end Wt

/- formula.build: what its lists are; the state of its rounds. -/
namespace Wt
open Go Go.RowKit Go.Maps Go.Proofs Fm

theorem news_of (W : World) (n : Nd) (T : Nat) : ∀ j u, (ndCells n)[j]? = some u → (W.alloc (.cells #[.int .i64 n.op, .int .i64 n.i, .int .i64 n.e, .int .i64 n.g, .int .i64 n.x, .int .i64 n.y] T)).cell? ((⟨W.heap.size, 0, none⟩ : Addr).add j) = some u := by
  intro j u hj
  have hjl : j < 6 := by have := (List.getElem?_eq_some_iff.1 hj).1; simpa [ndCells] using this
  rw [← hj]
  rcases (show j = 0 ∨ j = 1 ∨ j = 2 ∨ j = 3 ∨ j = 4 ∨ j = 5 by omega) with rfl | rfl | rfl | rfl | rfl | rfl <;> simp [Addr.add, ndCells]
/-- A list of lists of nodes, in memory. -/
structure RNN (w : World) (a : Option Addr) (L : List (List Nd)) : Prop where
  len : L.length ≤ 140737488355328
  get : ∀ k, k < L.length → ∃ b off a' c', a = some ⟨b, off, none⟩ ∧ b < w.heap.size ∧ w.cell? ⟨b, off + k, none⟩ = some (.slice a' (nth L k).length c') ∧ RN w a' (nth L k)
theorem RNN.ext {w w' : World} {a : Option Addr} {L : List (List Nd)} (h : RNN w a L) (e : Ext w w') : RNN w' a L :=
  ⟨h.len, fun k hk => by
    obtain ⟨b, off, a', c', h1, h2, h3, h4⟩ := h.get k hk
    exact ⟨b, off, a', c', h1, Nat.lt_of_lt_of_le h2 e.size, e.cell h3, h4.ext e⟩⟩
theorem RNN.nil (w : World) (a : Option Addr) : RNN w a [] := ⟨by simp, fun _ hk => absurd hk (by simp)⟩
/-- A node behind s others. -/
def shN (s : Nat) (n : Nd) : Nd := ⟨n.op, n.i, n.e, n.g, if (useOf n.op).1.x then n.x + s else n.x, if (useOf n.op).1.y then n.y + s else n.y⟩
def bF (os : List (List Nd)) : Nat → List Nd
  | 0 => []
  | k + 1 => bF os k ++ (fCompact (nth os k)).map (shN (bF os k).length)
def bX (x : Nd) (os : List (List Nd)) : Nat → Nd
  | 0 => x
  | k + 1 => if k = 0 then { bX x os k with x := ((bF os (k + 1)).length : Int) - 1 } else { bX x os k with y := ((bF os (k + 1)).length : Int) - 1 }
def bT (x : Nd) (os : List (List Nd)) : Fm := trAt (bF os os.length ++ [bX x os os.length]) (bF os os.length).length
/-- The formula of a node and of its operands. -/
def fB (x : Nd) (os : List (List Nd)) : List Nd :=
  if (os.any fun o => fCheck o != 0) || nodeErr (bX x os os.length) (bF os os.length).length != 0 || decide (200 < fsize (bT x os)) then [] else canon (bT x os)
theorem bF_len (os : List (List Nd)) : ∀ k, (bF os k).length ≤ 200 * k
  | 0 => by simp [bF]
  | k + 1 => by
    have := bF_len os k
    have := (fCompact_ok (nth os k)).2
    simp [bF]; omega
theorem shN_err {n : Nd} {a : Int} (s : Nat) (h : nodeErr n a = 0) : nodeErr (shN s n) (a + s) = 0 := by
  obtain ⟨h1, h2, h3, h4, h5⟩ := nodeErr_ok h
  refine nodeErr_zero (n := shN s n) h1 ?_ ?_ h4 h5
  · show opnd (useOf n.op).1.x (if (useOf n.op).1.x then n.x + s else n.x) (a + s) = true
    cases hx : (useOf n.op).1.x
    · rw [hx] at h2; simpa [opnd] using h2
    · rw [hx] at h2; simp [opnd] at h2 ⊢; omega
  · show opnd (useOf n.op).1.y (if (useOf n.op).1.y then n.y + s else n.y) (a + s) = true
    cases hy : (useOf n.op).1.y
    · rw [hy] at h3; simpa [opnd] using h3
    · rw [hy] at h3; simp [opnd] at h3 ⊢; omega
theorem nth_appL {α : Type} [Inhabited α] (l m : List α) {k : Nat} (h : k < l.length) : nth (l ++ m) k = nth l k := by
  rw [nth_eq _ _ (by simp; omega), nth_eq _ _ h, List.getElem_append_left h]
theorem nth_appR {α : Type} [Inhabited α] (l m : List α) {k : Nat} (h : k < m.length) : nth (l ++ m) (l.length + k) = nth m k := by
  rw [nth_eq _ _ (by simp; omega), nth_eq _ _ h, List.getElem_append_right (by omega)]
  simp
theorem Wf.appSh {F C : List Nd} (hF : Wf F) (hC : Wf C) : Wf (F ++ C.map (shN F.length)) := by
  intro k hk
  rcases Nat.lt_or_ge k F.length with h | h
  · rw [nth_appL _ _ h]; exact hF k h
  · obtain ⟨j, rfl⟩ : ∃ j, k = F.length + j := ⟨k - F.length, by omega⟩
    have hj : j < C.length := by simp at hk; omega
    rw [nth_appR _ _ (by simpa using hj)]
    have e : nth (C.map (shN F.length)) j = shN F.length (nth C j) := by
      rw [nth_eq _ _ (by simpa using hj), nth_eq _ _ hj]; simp
    rw [e]
    have := shN_err F.length (hC j hj)
    rw [show ((F.length + j : Nat) : Int) = (j : Int) + (F.length : Int) by omega]; exact this
theorem compact_wf (l : List Nd) : Wf (fCompact l) := by
  by_cases h : fCheck l = 0
  · obtain ⟨e, hk⟩ := fCompact_of h
    rw [e]; exact canon_wf _ (fok_trAt (fCheck_ok.1 h).2.2 _ _ (Nat.lt_succ_self _) hk)
  · rw [fCompact_no h]; intro k hk; simp at hk
theorem bF_wf (os : List (List Nd)) : ∀ k, Wf (bF os k)
  | 0 => fun k hk => by simp [bF] at hk
  | k + 1 => (bF_wf os k).appSh (compact_wf _)
theorem Wf.snoc {F : List Nd} (hF : Wf F) {n : Nd} (h : nodeErr n F.length = 0) : Wf (F ++ [n]) := by
  intro k hk
  rcases Nat.lt_or_ge k F.length with h1 | h1
  · rw [nth_appL _ _ h1]; exact hF k h1
  · obtain rfl : k = F.length := by simp at hk; omega
    have := nth_appR F [n] (k := 0) (by simp)
    rw [Nat.add_zero] at this
    rw [this]; exact h

section
variable (w : World) (x : Nd) (os : List (List Nd))
/-- What a round of build keeps: the node's box, and the list so far. -/
structure BS (bx : Nat) (n : Nd) (F : List Nd) (vf : Value) (wr : World) : Prop where
  lo : w.heap.size ≤ bx
  e : Ext w wr
  lt : bx < wr.heap.size
  box : NdAt wr bx 0 n
  fz : ∀ o, wr.frozen? ⟨bx, o, none⟩ = false
  own : wr.ownsRow (bx + 1) 109 6 vf F.length (rowN F)
variable {w} {bx : Nat} {n : Nd} {F : List Nd} {vf : Value} {wr : World}
theorem BS.ext' (h : BS w bx n F vf wr) {w' : World} (e : Ext wr w') : BS w bx n F vf w' := by
  refine ⟨h.lo, h.e.trans e, Nat.lt_of_lt_of_le h.lt e.size, h.box.ext e, fun o => ?_, ?_⟩
  · rw [World.frozen?_of_block (w := wr) (e.block _ h.lt)]; exact h.fz o
  · exact h.own.kept (row := none) ⟨e.os, e.tape, e.output, e.size, fun k hk _ => e.block k hk⟩ (by cases vf.ownBlock <;> simp)
theorem BS.ne (h : BS w bx n F vf wr) : some bx ≠ vf.ownBlock := fun e => by have := (h.own.lt _ e.symm).1; omega
theorem BS.vlo (h : BS w bx n F vf wr) : ∀ k, vf.ownBlock = some k → w.heap.size ≤ k := fun k hk => by have := (h.own.lt k hk).1; have := h.lo; omega
theorem BS.push (h : BS w bx n F vf wr) {m : Nd} {v' : Value} {W1 : World} (ho : W1.ownsRow (bx + 1) 109 6 v' (F.length + 1) (rowN F ++ ndCells m)) (g : wr.grownBy W1 vf.ownBlock) : BS w bx n (F ++ [m]) v' W1 := by
  have hne := h.ne
  have hb : W1.heap[bx]? = wr.heap[bx]? := g.block bx h.lt hne
  refine ⟨h.lo, ext_of_grown h.e g (fun k hk => by have := (h.own.lt k hk).1; have := h.lo; omega), Nat.lt_of_lt_of_le h.lt g.size, h.box.keep hb, fun o => ?_, ?_⟩
  · rw [World.frozen?_of_block hb]; exact h.fz o
  · have e1 : (F ++ [m]).length = F.length + 1 := by simp
    have e2 : rowN (F ++ [m]) = rowN F ++ ndCells m := by rw [rowN_append]; simp [rowN]
    rw [e1, e2]; exact ho
theorem BS.setX (h : BS w bx n F vf wr) (q : Int) : BS w bx { n with x := q } F vf (wr.setCell ⟨bx, 4, none⟩ (.int .i64 q)) := by
  refine ⟨h.lo, h.e.setCell (by have := h.lo; simp; omega) _, by simpa [World.setCell] using h.lt, h.box.setX q, fun o => by rw [World.frozen?_setCell]; exact h.fz o, ?_⟩
  exact h.own.kept (row := some bx) ⟨rfl, rfl, rfl, by simp, fun j _ hj => heap_setCell_other wr ⟨bx, 4, none⟩ j _ (fun e => hj (by simp [e]))⟩ (.inr (Ne.symm h.ne))
theorem BS.setY (h : BS w bx n F vf wr) (q : Int) : BS w bx { n with y := q } F vf (wr.setCell ⟨bx, 5, none⟩ (.int .i64 q)) := by
  refine ⟨h.lo, h.e.setCell (by have := h.lo; simp; omega) _, by simpa [World.setCell] using h.lt, h.box.setY q, fun o => by rw [World.frozen?_setCell]; exact h.fz o, ?_⟩
  exact h.own.kept (row := some bx) ⟨rfl, rfl, rfl, by simp, fun j _ hj => heap_setCell_other wr ⟨bx, 5, none⟩ j _ (fun e => hj (by simp [e]))⟩ (.inr (Ne.symm h.ne))
end
end Wt

/- formula.Compact returns memory of its own. -/
namespace Wt
open Go Go.RowKit Go.Maps Go.Proofs Fm

/-- A slice's memory lies behind what was there. -/
def Fresh (a : Option Addr) (n : Nat) : Prop := ∀ b off, a = some ⟨b, off, none⟩ → n ≤ b
def RetNF (l : List Nd) (e : Ending) (w w' : World) : Prop := ∃ a c, e = .returned (.slice a l.length c) ∧ RN w' a l ∧ Fresh a w.heap.size ∧ Ext w w'
theorem RN_fresh {w : World} {base e : Nat} {v : Value} {l : List Nd} (h : w.ownsRow base e 6 v l.length (rowN l)) (hl : l.length ≤ 140737488355328) :
    ∃ a c, v = .slice a l.length c ∧ RN w a l ∧ Fresh a base := by
  obtain ⟨a, c, rfl, hr⟩ := RN_of_own h hl
  refine ⟨a, c, rfl, hr, ?_⟩
  rintro b off rfl
  exact (h.lt b rfl).1
set_option maxRecDepth 20000 in
set_option maxHeartbeats 2000000 in
theorem compact_fresh (fa : Option Addr) (fc : Nat) (l : List Nd) (root : Nat) (w : World) (hr : RN w fa l) (hw : Wf l) (hi : root < l.length) (hl : l.length ≤ 1000) :
    Calls Tryz.prog 125 #[.slice fa l.length fc, .int .i64 (root : Int)] w fun e w' =>
      (∃ a c, e = .returned (.slice a (fsize (trAt l root)) c) ∧ RN w' a (canon (trAt l root)) ∧ Fresh a w.heap.size) ∧ Ext w w' := by
  have HF := Lib.hid (finish_any (fc := fc) hr hw hl (root + 1) root (by omega) hi)
  have hmm := @run_makeMap Tryz.prog
  clear hr hw
  go_enter Tryz.func125, Tryz.ntmps125
  go_wp2_with (go_at_call 162; simp only [Nat.add_assoc, Nat.reduceAdd]; go_must (refine (HF.out _ [] (.slice none 0 0) (fun _ => none) (CS.start w fa fc l _ _ _ _ _)).mono ?_; rintro e w1 ⟨v1, D1, rfl, hc, hf, hj⟩; have c5 := hc.co))
  obtain ⟨va, vc, hv, hrn, hfr⟩ := RN_fresh (l := encL (addT (trAt l root) [])) (by rw [encL_length]; exact hc.own) (by rw [encL_length]; have := hc.len; omega)
  rw [encL_length] at hv
  subst hv
  go_ret
  exact ⟨⟨va, vc, rfl, hrn, fun b off h => by have := hfr b off h; omega⟩, hc.ext⟩
set_option maxHeartbeats 1000000 in
theorem sub_fresh (fa : Option Addr) (fc : Nat) (l : List Nd) (k : Nat) (w : World) (hr : RN w fa l) (h1 : fCheck l = 0) (h3 : k < l.length) :
    Calls Tryz.prog 94 #[.slice fa l.length fc, .int .i64 (k : Int)] w fun e w' => RetNF (canon (trAt l k)) e w w' := by
  have hl := hr.len
  have hf := fCheck_ok.1 h1
  have H1 := Lib.hid h1
  have HW := Lib.hid hf.2.2
  have hl2 := hf.2.1
  clear h1 hf
  go_enter Tryz.func94, Tryz.ntmps94
  go_wp2_with (first | (go_at_call 89; refine (check_any _ _ _ _ hr).mono ?_; rintro e w1 ⟨rfl, hE⟩; rw [H1.out]) | (go_at_call 125; refine (compact_fresh _ _ l k _ (hr.ext hE) HW.out (by omega) (by omega)).mono ?_; rintro e w2 ⟨⟨a, c, rfl, hc, hfr⟩, hE2⟩))
  go_ret
  unfold RetNF
  rw [canon_length]
  exact ⟨_, _, rfl, hc, fun b off h => Nat.le_trans hE.size (hfr b off h), hE.trans hE2⟩
set_option maxHeartbeats 1000000 in
theorem compactF_fresh (fa : Option Addr) (fc : Nat) (l : List Nd) (w : World) (hr : RN w fa l) (h1 : fCheck l = 0) :
    Calls Tryz.prog 46 #[.slice fa l.length fc] w fun e w' => RetNF (fCompact l) e w w' := by
  have hl := hr.len
  obtain ⟨hc, hk⟩ := fCompact_of h1
  have hp := (fCheck_ok.1 h1).1
  have HS := Lib.hid (fun w' (h : RN w' fa l) => sub_fresh fa fc l (l.length - 1) w' h h1 hk)
  have HC := Lib.hid hc
  have HR := Lib.hid hr
  have hsub : IntKind.i64.wrap ((l.length : Int) - 1) = ((l.length - 1 : Nat) : Int) := by rw [IntWalk.i64_in _ (by omega)]; omega
  clear hr h1 hc
  go_enter Tryz.func46, Tryz.ntmps46
  go_wp2_with (go_at_call 94; have e0 : ((l.length : Int) - 1) = ((l.length - 1 : Nat) : Int) := (by omega); (try rw [e0]); refine (HS.out _ HR.out).mono ?_; rintro e w1 ⟨a, c, rfl, hc, hfr, hE⟩)
  go_ret
  rw [HC.out]
  exact ⟨a, c, by rw [canon_length]; rfl, hc, hfr, hE⟩
theorem ext_block {w w' : World} (h : Ext w w') (b : Nat) (hb : b < w.heap.size) : w'.heap[b]? = w.heap[b]? := h.block b hb
theorem RN.keepB {w w' : World} {a : Option Addr} {l : List Nd} (h : RN w a l) (hk : ∀ b off, a = some ⟨b, off, none⟩ → w'.heap[b]? = w.heap[b]?) : RN w' a l :=
  ⟨h.len, fun k hlt => by
    obtain ⟨b, off, e, hn⟩ := h.at_ k hlt
    exact ⟨b, off, e, hn.keep (hk b off e)⟩⟩
end Wt
