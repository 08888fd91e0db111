/- A range over an iterator that keeps its own state in a cell: the law of the statement. -/
import Derived.Test.YtbeaagnahldefaaDoorM7Ap
import Derived.RangeFuncNested
import Derived.RangeFuncCalls
import Derived.RangeFuncLeaves
import Derived.Test.YtbeaagnahldefaaDoorM7Au
import Derived.Shelf.Abstract
import Derived.Shelf.RegionOpen
import Derived.WalkKit
import Derived.OwnWalkIn
import Derived.TacticsInMore
import Derived.LoopNIn
import Derived.LoopIn
import Derived.Test.YtbeaagnahldefaaDoorM7Ao
import Derived.Deep.RegionHeld3
import Derived.Test.YtbeaagnahldefaaDoorM7Ba
namespace Wt
open Go Go.RowKit Go.Maps Go.Proofs

section
variable {F : Fence} {n : Nat} {P : Program}
/-- The iterator's contract: it hands on the numbers one by one; its own state lies in block b. -/
def PtsAt (F : Fence) (n : Nat) (P : Program) (g b : Nat) (xs : List Nat) (st : Nat → Value) : Prop :=
  ∀ (l : Nat) (J : Nat → World → Prop) (W : World),
    (∀ k A v, J k A → J k (A.setCell ⟨b, 0, none⟩ v)) → (∀ k A, J k A → J k A.drew) → (∀ k A, J k A → Tab A) →
    (∀ k A, k < xs.length → J k A → A.cell? ⟨b, 0, none⟩ = some (st k) → A.frozen? ⟨b, 0, none⟩ = false → YieldAt F (n - 1) P l #[.int .i64 ((nth xs k : Nat) : Int)] A fun e A' => e = .returned (.bool true) ∧ J (k + 1) A' ∧ A'.cell? ⟨b, 0, none⟩ = A.cell? ⟨b, 0, none⟩ ∧ A'.frozen? ⟨b, 0, none⟩ = A.frozen? ⟨b, 0, none⟩) →
    J 0 W → W.cell? ⟨b, 0, none⟩ = some (st 0) → W.frozen? ⟨b, 0, none⟩ = false →
    CallsIn F n P g #[.func (.yield l) #[] #[], .pointer (some ⟨b, 0, none⟩)] W fun e W' => (∃ v, e = .returned v) ∧ J xs.length W'
/-- How a round ends. -/
def ptsPost (I : Nat → World → Prop) (b k : Nat) (W : World) : Exit → Act → World → Prop
  | .normal, _, W' => KeepsOthers W W' ∧ I (k + 1) W' ∧ W'.cell? ⟨b, 0, none⟩ = W.cell? ⟨b, 0, none⟩ ∧ W'.frozen? ⟨b, 0, none⟩ = W.frozen? ⟨b, 0, none⟩
  | _, _, _ => False
theorem putObj_cell {W : World} {l b : Nat} (o : Obj) (h : b ≠ l) : (W.putObj l o).cell? ⟨b, 0, none⟩ = W.cell? ⟨b, 0, none⟩ ∧ (W.putObj l o).frozen? ⟨b, 0, none⟩ = W.frozen? ⟨b, 0, none⟩ :=
  ⟨World.cell?_of_block (World.putObj_heap_other h), World.frozen?_of_block (World.putObj_heap_other h)⟩
theorem wpIn_rangeFunc_pts {g : Operand} {ps : Array Tmp} {assign body : Code} {Q : Exit → Act → World → Prop} {a : Act} {w : World}
    (hro : F.round = none) (h1 : 1 ≤ n) {gf b : Nat} (hg : a.eval g = .func (.func gf) #[] #[.pointer (some ⟨b, 0, none⟩)]) (hFg : F.fn gf) (eg : ∀ args w, (callFunc gf args).run P w = .ok (.enter gf args) w)
    {xs : List Nat} {st : Nat → Value} (hseq : PtsAt F (n - 1) P gf b xs st) (hps : ps.size = 1)
    (hb0 : w.cell? ⟨b, 0, none⟩ = some (st 0)) (hbf : w.frozen? ⟨b, 0, none⟩ = false)
    (I : Nat → World → Prop) (hI : OwnFrom w.heap.size I) (hIb : ∀ k A v, I k A → I k (A.setCell ⟨b, 0, none⟩ v)) (hId : ∀ k A, I k A → I k A.drew) (hIT : ∀ k A, I k A → Tab A) (h0 : I 0 w) (a₁ : Nat → Act)
    (hassign : ∀ (l k : Nat) (W : World) (K : Act → World → Prop), K (a₁ (nth xs k)) W →
      assign.wpIn (F.inRound l) (n - 1 - 1) P (Exit.then K (fun _ _ _ => False)) { tmps := (ps.zip #[.int .i64 ((nth xs k : Nat) : Int)]).foldl (fun t (p, v) => t.setIfInBounds p v) a.tmps, defers := [] } W)
    (hbody : ∀ (l k : Nat) (W : World), k < xs.length → I k W → body.wpIn (F.inRound l) (n - 1 - 1) P (ptsPost I b k W) (a₁ (nth xs k)) W)
    (hdone : ∀ (D : Nat) (W : World), w.heap.size ≤ D → I xs.length W → W.heap[D]? = some (.deferred (some [])) → Q .normal { a with defers := { target := .collected D, args := #[] } :: a.defers } W) :
    (Code.rangeFunc g ps assign body).wpIn F n P Q a w := by
  have hbl : b < w.heap.size := World.block_lt_of_cell? _ _ hb0
  refine wpIn_rangeFunc ?_
  intro fn hfn
  rw [hro]
  obtain ⟨rec, hrec⟩ : ∃ rec : LoopState → Option Code → Loop, rec = fun st pe => { state := st, pending := pe, fn, tmps := a.tmps, params := ps, assign, body, defers := w.heap.size } := ⟨_, rfl⟩
  obtain ⟨W1, hW1⟩ : ∃ W1, (w.alloc (.deferred (some []))).alloc (.loop (rec .ready none)) = W1 := ⟨_, rfl⟩
  have hL1 : W1.heap[w.heap.size + 1]? = some (.loop (rec .ready none)) := by
    rw [← hW1]; have := World.alloc_heap_new (w.alloc (.deferred (some []))) (.loop (rec .ready none)); rwa [World.size_alloc] at this
  have hK1 : W1.heap[w.heap.size]? = some (.deferred (some [])) := by
    rw [← hW1]; exact (Below.heap_alloc _ _ _ (by simp)).trans (World.alloc_heap_new w _)
  have hI1 : I 0 W1 := by rw [← hW1]; exact hI.alloc _ (hI.alloc _ h0)
  have hold : W1.heap[b]? = w.heap[b]? := by
    rw [← hW1]; exact (Below.heap_alloc _ _ b (by simp; omega)).trans (Below.heap_alloc _ _ b hbl)
  refine ⟨w.heap.size + 1, [{ target := .collected w.heap.size, args := #[] }], W1, { target := .fn (.func gf) #[.pointer (some ⟨b, 0, none⟩)], args := #[.func (.yield (w.heap.size + 1)) #[] #[]] }, W1, gf,
    #[.func (.yield (w.heap.size + 1)) #[] #[]] ++ #[.pointer (some ⟨b, 0, none⟩)], W1, ?_, ?_, ?_, ?_, fun _ => h1, ?_⟩
  · rw [← hW1, hrec]; exact run_enterLoop_outer _ _ _ _ _
  · simp only [resolve, hg]
    simp [go_sem]
  · intro f' hf'; simp [Target.leads] at hf'; subst hf'; exact hFg
  · simp [invoke, go_sem, eg]
  · refine (hseq (w.heap.size + 1)
      (fun k W => I k W ∧ W.heap[w.heap.size + 1]? = some (.loop (rec .ready none)) ∧ W.heap[w.heap.size]? = some (.deferred (some [])))
      W1
      (fun k A v h => ⟨hIb k A v h.1, (Below.heap_setCell A ⟨b, 0, none⟩ v _ (by show w.heap.size + 1 ≠ b; omega)).trans h.2.1, (Below.heap_setCell A ⟨b, 0, none⟩ v _ (by show w.heap.size ≠ b; omega)).trans h.2.2⟩)
      (fun k A h => ⟨hId k A h.1, h.2.1, h.2.2⟩)
      (fun k A h => hIT k A h.1)
      ?_ ⟨hI1, hL1, hK1⟩ ((World.cell?_of_block hold).trans hb0) ((World.frozen?_of_block hold).trans hbf)).mono ?_
    · rintro k W hk ⟨hi, hl, hkd⟩ hbc hbz
      have hlt : w.heap.size + 1 < W.heap.size := (Array.getElem?_eq_some_iff.1 hl).1
      have hy := run_yield (P := P) (args := #[.int .i64 ((nth xs k : Nat) : Int)]) hl (by rw [hrec]; exact hps.symm)
      rw [hrec] at hy
      refine ⟨fn, _, assign, body, hy, roundIn_of_wpIn hfn (hassign _ k W _ ⟨_, run_beginRound hl (by rw [hrec]), ?_⟩)⟩
      have hl2 : (W.putObj (w.heap.size + 1) (.loop { rec .ready none with state := .busy })).heap[w.heap.size + 1]? = some (.loop { rec .ready none with state := .busy }) := World.putObj_heap_same hlt
      have hk2 : (W.putObj (w.heap.size + 1) (.loop { rec .ready none with state := .busy })).heap[w.heap.size]? = some (.deferred (some [])) := (World.putObj_heap_other (by omega)).trans hkd
      refine wpIn_mono (hbody _ k _ hk (hI.putObj _ hi (by omega) hl rfl)) ?_
      rintro e a3 W3 hp
      cases e with
      | normal =>
        obtain ⟨hk3, hi3, hc3, hf3⟩ := hp
        have hl3 := hk3.same _ _ hl2 rfl
        have hr := run_endRound (P := P) none hl3
        obtain ⟨c1, f1⟩ := putObj_cell (W := W) (l := w.heap.size + 1) (b := b) (.loop { rec .ready none with state := .busy }) (by omega)
        rw [hrec] at hr
        refine ⟨_, _, hr, rfl, ⟨hI.putObj _ hi3 (by omega) hl3 rfl, ?_, (World.putObj_heap_other (by omega)).trans (hk3.same _ _ hk2 rfl)⟩, ?_, ?_⟩
        · rw [hrec]; exact World.putObj_heap_same (Array.getElem?_eq_some_iff.1 hl3).1
        · exact ((putObj_cell _ (by omega)).1.trans hc3).trans c1
        · exact ((putObj_cell _ (by omega)).2.trans hf3).trans f1
      | ret => exact hp.elim
      | exit id => exact hp.elim
      | goto t => exact hp.elim
      | panic ch => exact hp.elim
      | outgrown => exact hp.elim
    · rintro e W2 ⟨⟨v, rfl⟩, hi, hl, hk⟩
      exact ⟨none, _, by have := run_endLoop (P := P) hl (by rw [hrec]; simp); rw [hrec] at this; exact this, hdone _ _ (Nat.le_refl _) (hI.putObj _ hi (by omega) hl rfl) ((World.putObj_heap_other (by omega)).trans hk)⟩
end
end Wt

/- Plain: the points of a set one by one; what a set of points comes to under a relation; closures of relations. -/
namespace Wt
open Go Go.RowKit Go.Proofs Fm

/-- A set without its first k points. -/
def dropK (s : BitVec 64) : Nat → BitVec 64
  | 0 => s
  | k + 1 => dropK s k &&& (dropK s k - 1#64)
theorem memL_dropK (s : BitVec 64) : ∀ k, memL (dropK s k) = (memL s).drop k
  | 0 => rfl
  | k + 1 => by
    have h := memL_dropK s k
    by_cases hz : dropK s k = 0#64
    · rw [hz, memL_zero] at h
      have hl : (memL s).length ≤ k := List.drop_eq_nil_iff.1 h.symm
      show memL (dropK s k &&& (dropK s k - 1#64)) = _
      rw [hz, List.drop_eq_nil_of_le (by omega)]
      exact memL_zero
    · have h2 := memL_step hz
      rw [h] at h2
      show memL (dropK s k &&& (dropK s k - 1#64)) = _
      have h3 := congrArg List.tail h2
      rw [List.tail_drop] at h3
      exact h3.symm
theorem dropK_ne {s : BitVec 64} {k : Nat} (hk : k < (memL s).length) : dropK s k ≠ 0#64 := fun h => by
  have h2 := memL_dropK s k
  rw [h, memL_zero] at h2
  have := List.drop_eq_nil_iff.1 h2.symm
  omega
theorem dropK_tz {s : BitVec 64} {k : Nat} (hk : k < (memL s).length) : tz (dropK s k) = nth (memL s) k := by
  have h := memL_step (dropK_ne hk)
  rw [memL_dropK, List.drop_eq_getElem_cons hk] at h
  rw [nth_eq _ _ hk]
  exact (List.cons.inj h).1.symm
theorem dropK_end (s : BitVec 64) : dropK s (memL s).length = 0#64 := by
  by_cases h : dropK s (memL s).length = 0#64
  · exact h
  · have h2 := memL_step h
    rw [memL_dropK, List.drop_length] at h2
    cases h2
theorem memL_at {s : BitVec 64} {k : Nat} (hk : k < (memL s).length) : nth (memL s) k < 64 ∧ bt s (nth (memL s) k) = true := mem_memL.1 (nth_mem hk)
theorem memL_ltN {s : BitVec 64} {N k : Nat} (h : Sub s (allW N)) (hk : k < (memL s).length) : nth (memL s) k < N := by
  obtain ⟨h1, h2⟩ := memL_at hk
  have := h _ h1 h2
  rw [bt_allW] at this
  simp at this
  omega
/-- The union of the successors of the first k points of a list. -/
def mapK (r : List (BitVec 64)) (l : List Nat) : Nat → BitVec 64
  | 0 => 0#64
  | k + 1 => mapK r l k ||| nth r (nth l k)
def mapS (r : List (BitVec 64)) (s : BitVec 64) : BitVec 64 := mapK r (memL s) (memL s).length
theorem mapK_sub {r : List (BitVec 64)} {l : List Nat} {t : BitVec 64} : ∀ k, Sub (mapK r l k) t ↔ ∀ j, j < k → Sub (nth r (nth l j)) t
  | 0 => ⟨fun _ j hj => absurd hj (Nat.not_lt_zero _), fun _ k _ hb => by rw [show mapK r l 0 = 0#64 from rfl, bt_zero] at hb; cases hb⟩
  | k + 1 => by
    have ih := mapK_sub (r := r) (l := l) (t := t) k
    constructor
    · intro h j hj
      by_cases hjk : j = k
      · subst hjk; exact (Sub.orR _ _).trans h
      · exact ih.1 ((Sub.orL _ _).trans h) j (by omega)
    · intro h
      exact Sub.or (ih.2 fun j hj => h j (by omega)) (h k (by omega))
theorem mapS_sub {r : List (BitVec 64)} {s t : BitVec 64} : Sub (mapS r s) t ↔ ∀ u, u < 64 → bt s u = true → Sub (nth r u) t := by
  unfold mapS
  rw [mapK_sub]
  constructor
  · intro h u hu hb
    obtain ⟨j, hj, rfl⟩ := mem_nth (mem_memL.2 ⟨hu, hb⟩)
    exact h j hj
  · intro h j hj
    exact h _ (memL_at hj).1 (memL_at hj).2
section
variable {r : List (BitVec 64)} {N : Nat} (hl : r.length = N) (hin : ∀ w, w < N → Sub (nth r w) (allW N))
include hl hin
theorem traB_map : traB r = true ↔ ∀ w, w < N → mapS r (nth r w) &&& ~~~ nth r w = 0#64 := by
  unfold traB
  simp only [List.all_eq_true, List.mem_range, hl, Bool.or_eq_true, Bool.not_eq_true', beq_iff_eq]
  constructor
  · intro h w hw
    rw [andNot_zero, mapS_sub]
    intro u hu hb
    have hun : u < N := by
      have := hin w hw u hu hb
      rw [bt_allW] at this
      simp at this
      omega
    rcases h w hw u hun with h1 | h1
    · rw [hb] at h1; cases h1
    · exact andNot_zero.1 h1
  · intro h w hw u hu
    cases hb : bt (nth r w) u
    · exact .inl rfl
    · refine .inr ?_
      have h1 := h w hw
      rw [andNot_zero, mapS_sub] at h1
      exact andNot_zero.2 (h1 u (bt_lt64 hb) hb)
end

/-! The reference's closures. -/
def sumT : List (BitVec 64) → Nat
  | [] => 0
  | x :: l => x.toNat + sumT l
theorem sumT_le : ∀ l : List (BitVec 64), sumT l ≤ l.length * 2 ^ 64
  | [] => Nat.le_refl _
  | x :: l => by
    have h1 := sumT_le l
    have h2 := x.isLt
    simp only [sumT, List.length_cons, Nat.add_mul]
    omega
theorem sumT_set : ∀ (l : List (BitVec 64)) (i : Nat) (x : BitVec 64), i < l.length → sumT (l.set i x) + (nth l i).toNat = sumT l + x.toNat
  | [], _, _, h => absurd h (Nat.not_lt_zero _)
  | y :: l, 0, x, _ => by simp only [List.set_cons_zero, sumT]; simp [nth]; omega
  | y :: l, i + 1, x, h => by
    have := sumT_set l i x (by simpa using h)
    have e : nth (y :: l) (i + 1) = nth l i := by simp [nth]
    rw [e]
    simp only [List.set_cons_succ, sumT]
    omega
theorem or_lt {x a : BitVec 64} (h : x ||| a ≠ x) : x.toNat < (x ||| a).toNat := by
  have h1 : x.toNat ≤ (x ||| a).toNat := by rw [BitVec.toNat_or]; exact Nat.left_le_or
  have h2 : x.toNat ≠ (x ||| a).toNat := fun e => h (BitVec.eq_of_toNat_eq e.symm)
  omega
theorem or_eq {x a : BitVec 64} : x ||| a = x ↔ Sub a x := by
  constructor
  · intro h
    rw [← h]
    exact Sub.orR _ _
  · intro h
    refine bt_ext fun k hk => ?_
    rw [bt_or]
    cases h1 : bt x k
    · cases h2 : bt a k
      · rfl
      · have := h k hk h2; rw [h1] at this; cases this
    · rfl
theorem or_lt_sum {l : List (BitVec 64)} {i : Nat} {a : BitVec 64} (hi : i < l.length) (h : nth l i ||| a ≠ nth l i) : sumT l < sumT (l.set i (nth l i ||| a)) := by
  have h1 := sumT_set l i (nth l i ||| a) hi
  have h2 := or_lt h
  omega
/-- Where a step of grow adds, and what. -/
def atE (e : Bool) (w u : Nat) : Nat := if e then u else w
def addE (e : Bool) (l : List (BitVec 64)) (w u : Nat) : BitVec 64 := if e then nth l w else nth l u
/-- A step from w to u is closed. -/
def CloP (e : Bool) (l : List (BitVec 64)) (w u : Nat) : Prop := bt (nth l w) u = true → nth l (atE e w u) ||| addE e l w u = nth l (atE e w u)
def Clo (e : Bool) (l : List (BitVec 64)) : Prop := ∀ w u, w < l.length → u < l.length → CloP e l w u
/-- The list that grows. -/
structure Gro (e : Bool) (r l : List (BitVec 64)) : Prop where
  len : l.length = r.length
  same : Clo e r → l = r
theorem Gro.start (e : Bool) (r : List (BitVec 64)) : Gro e r r := ⟨rfl, fun _ => rfl⟩
theorem Gro.step {e : Bool} {r l : List (BitVec 64)} (h : Gro e r l) {w u : Nat} (hw : w < r.length) (hu : u < r.length) (hb : bt (nth l w) u = true) (hne : nth l (atE e w u) ||| addE e l w u ≠ nth l (atE e w u)) : Gro e r (l.set (atE e w u) (nth l (atE e w u) ||| addE e l w u)) :=
  ⟨by rw [List.length_set]; exact h.len, fun hc => by
    have hlr := h.same hc
    subst hlr
    exact absurd (hc w u hw hu hb) hne⟩
theorem clo_tra {r : List (BitVec 64)} : Clo false r ↔ traB r = true := by
  unfold traB Clo CloP
  simp only [List.all_eq_true, List.mem_range, Bool.or_eq_true, Bool.not_eq_true', beq_iff_eq, atE, addE]
  constructor
  · intro h w hw u hu
    cases hb : bt (nth r w) u
    · exact .inl rfl
    · exact .inr (andNot_zero.2 (or_eq.1 (by simpa using h w u hw hu hb)))
  · intro h w u hw hu hb
    rcases h w hw u hu with h1 | h1
    · rw [hb] at h1; cases h1
    · simpa using or_eq.2 (andNot_zero.1 h1)
theorem clo_euc {r : List (BitVec 64)} : Clo true r ↔ eucB r = true := by
  unfold eucB Clo CloP
  simp only [List.all_eq_true, List.mem_range, Bool.or_eq_true, Bool.not_eq_true', beq_iff_eq, atE, addE]
  constructor
  · intro h w hw u hu
    cases hb : bt (nth r w) u
    · exact .inl rfl
    · exact .inr (andNot_zero.2 (or_eq.1 (by simpa using h w u hw hu hb)))
  · intro h w u hw hu hb
    rcases h w hw u hu with h1 | h1
    · rw [hb] at h1; cases h1
    · simpa using or_eq.2 (andNot_zero.1 h1)
theorem gro_end {e : Bool} {r l : List (BitVec 64)} (h : Gro e r l) (hc : Clo e l) : l = r ↔ Clo e r :=
  ⟨fun hl => hl ▸ hc, h.same⟩
end Wt

/- Walks: relation.points, its iterator, mapped. -/
namespace Wt
open Go Go.RowKit Go.Maps Go.Proofs Fm
attribute [local go_sem] Oper.semAt_some

/-- What the iterator keeps in its cell. -/
def ptsSt (s : BitVec 64) (k : Nat) : Value := .int .u64 (un (dropK s k))
/-- How many points are still to come. -/
def ptsMu (b : Nat) (w : World) : Nat := match w.cell? ⟨b, 0, none⟩ with
  | some (.int _ x) => (memL (BitVec.ofInt 64 x)).length
  | _ => 0
theorem ptsMu_at {b k : Nat} {s : BitVec 64} {w : World} (h : w.cell? ⟨b, 0, none⟩ = some (ptsSt s k)) : ptsMu b w = (memL s).length - k := by
  unfold ptsMu
  rw [h]
  show (memL (BitVec.ofInt 64 (un (dropK s k)))).length = _
  rw [ofInt_un, memL_dropK, List.length_drop]
theorem points_any (s : BitVec 64) (w : World) : Calls Tryd.prog 46 #[.int .u64 (un s)] w fun e w' => e = .returned (.func (.func 83) #[] #[.pointer (some ⟨w.heap.size, 0, none⟩)]) ∧ w' = w.alloc (.cells #[.int .u64 (un s)] 40) := by
  go_enter Tryd.func46, Tryd.ntmps46
  go_wp2
  go_ret
  exact ⟨rfl, rfl⟩
set_option maxRecDepth 20000 in
set_option maxHeartbeats 4000000 in
theorem points1_pts (n : Nat) (hn : 1 ≤ n) (b : Nat) (s : BitVec 64) : PtsAt Fence.wide n Tryd.prog 83 b (memL s) (ptsSt s) := by
  intro l J W hJs hJd hJT hY h0 hc hf
  have HS := Lib.hid hJs
  have HT := Lib.hid hJT
  have HY := Lib.hid hY
  clear hJs hJd hJT hY
  refine callsIn_of_wp Tryd.func83 rfl trivial ?_ rfl
  simp only [Tryd.ntmps83, List.size_toArray, List.length_cons, List.length_nil, Nat.reduceAdd, Nat.reduceSub, Array.replicate_succ, Array.replicate_zero, List.push_toArray, List.append_toArray, List.nil_append, List.cons_append]
  gi_wp2
  gi_loopw [] (fun wr => ∃ k, k ≤ (memL s).length ∧ Hid (J k wr) ∧ wr.cell? ⟨b, 0, none⟩ = some (ptsSt s k) ∧ wr.frozen? ⟨b, 0, none⟩ = false) (fun wr => ptsMu b wr)
  case atStart => exact ⟨0, Nat.zero_le _, Lib.hid h0, hc, hf⟩
  case round =>
    clear h0 hc hf
    obtain ⟨k, hk, HJ, hc, hf⟩ := hrel
    have hmu := Lib.hid (ptsMu_at hc)
    by_cases hkl : k < (memL s).length
    · have hne := dropK_ne hkl
      have htz := tz_any (dropK s k) hne wr (HT.out _ _ HJ.out)
      rw [dropK_tz hkl] at htz
      have HZ : Hid (CallsIn Fence.wide (n - 1) Tryd.prog 84 #[.int .u64 (un (dropK s k))] wr fun e w' => e = .returned (.int .i64 ((nth (memL s) k : Nat) : Int)) ∧ wr = w') := Lib.hid (callsIn_wide.2 htz)
      obtain ⟨fn, tmps, assign, body, hy, hR⟩ := HY.out k wr hkl HJ.out hc hf
      have hne2 : (un (dropK s k) != 0) = true := by
        have h1 : un (dropK s k) ≠ un 0#64 := fun h => hne (un_inj.1 h)
        rw [un_zero] at h1
        simpa using h1
      have HD : Hid (dropK s (k + 1) = dropK s k &&& (dropK s k - 1#64)) := Lib.hid rfl
      clear htz hne
      change wr.cell? ⟨b, 0, none⟩ = some (.int .u64 (un (dropK s k))) at hc
      generalize dropK s k = S at *
      have hbl := World.block_lt_of_cell? _ _ hc
      gi_wp2_with (refine ⟨trivial, ?_⟩; gi_at_call 84; refine HZ.out.mono ?_; rintro _ _ ⟨rfl, rfl⟩)
      refine hR.mono ?_
      rintro _ w2 ⟨rfl, hJ2, hc2, hf2⟩
      rw [hc] at hc2
      rw [hf] at hf2
      have hbl2 := World.block_lt_of_cell? _ _ hc2
      have HJ2 := Lib.hid hJ2
      clear hy hR hJ2
      have HC3 : Hid ((w2.setCell ⟨b, 0, none⟩ (.int .u64 (un (S &&& (S - 1#64))))).cell? ⟨b, 0, none⟩ = some (ptsSt s (k + 1))) := Lib.hid (by
        rw [ptsSt, HD.out]
        exact World.cell?_setCell_same' _ _ _ (by rw [hc2]; rfl))
      gi_wp2
      go_roundw
      case rel => exact ⟨k + 1, hkl, Lib.hid (HS.out _ _ _ HJ2.out), HC3.out, by rw [World.frozen?_setCell]; exact hf2⟩
      case measure =>
        have h1 := hmu.out
        have h2 := ptsMu_at HC3.out
        omega
    · obtain rfl : k = (memL s).length := by omega
      have hz : ptsSt s (memL s).length = .int .u64 0 := by unfold ptsSt; rw [dropK_end, un_zero]
      rw [hz] at hc
      gi_wp2
      go_end0
      exact ⟨⟨_, rfl⟩, HJ.out⟩
/-- A variable in a block of its own. -/
structure Bx1 (W : World) (b : Nat) (v : Value) : Prop where
  c : W.cell? ⟨b, 0, none⟩ = some v
  f : W.frozen? ⟨b, 0, none⟩ = false
theorem Bx1.lt {W : World} {b : Nat} {v : Value} (h : Bx1 W b v) : b < W.heap.size := World.block_lt_of_cell? _ _ h.c
theorem Bx1.new (W : World) (v : Value) (T : TypeId) : Bx1 (W.alloc (.cells #[v] T)) W.heap.size v := by
  have h := World.alloc_heap_new W (.cells #[v] T)
  exact ⟨by unfold World.cell?; rw [h]; rfl, by unfold World.frozen?; rw [h]; rfl⟩
theorem Bx1.ext {W W' : World} {b : Nat} {v : Value} (h : Bx1 W b v) (e : Ext W W') : Bx1 W' b v :=
  ⟨e.cell h.c, (World.frozen?_of_block (e.block _ h.lt)).trans h.f⟩
theorem Bx1.at {W : World} {b b' : Nat} {v : Value} (h : Bx1 W b v) (e : b = b') : Bx1 W b' v := e ▸ h
/-- What lies between two rounds of mapped. -/
def MpI (w : World) (a : Option Addr) (r : List (BitVec 64)) (c : Nat) (l : List Nat) (k : Nat) (W : World) : Prop :=
  (W.cell? ⟨w.heap.size + 1, 0, none⟩ = some (.int .u64 (un (mapK r l k))) ∧ W.frozen? ⟨w.heap.size + 1, 0, none⟩ = false ∧ W.cell? ⟨w.heap.size, 0, none⟩ = some (.slice a r.length c)) ∧ Below w.heap.size w W
theorem MpI.own {w : World} {a : Option Addr} {r : List (BitVec 64)} {c n : Nat} {l : List Nat} (h : w.heap.size ≤ n) : OwnFrom n (MpI w a r c l) :=
  OwnFrom.and (Own.from (fun _ _ _ _ hs hg hr => ⟨cell_kept hs.1 hg hr, (frozen_kept hs.1 hg hr).trans hs.2.1, cell_kept hs.2.2 hg hr⟩) _) (ownFrom_below (Nat.le_refl _) h)
theorem MpI.set {w W : World} {a : Option Addr} {r : List (BitVec 64)} {c k : Nat} {l : List Nat} (h : MpI w a r c l k W) (v : Value) : MpI w a r c l k (W.setCell ⟨w.heap.size + 2, 0, none⟩ v) :=
  ⟨⟨(World.cell?_setCell_other _ _ _ _ (by simp)).trans h.1.1, by rw [World.frozen?_setCell]; exact h.1.2.1, (World.cell?_setCell_other _ _ _ _ (by simp)).trans h.1.2.2⟩, h.2.setCell (by simp) _⟩
theorem MpI.put {w W : World} {a : Option Addr} {r : List (BitVec 64)} {c k : Nat} {l : List Nat} {x : Act} (h : MpI w a r c l k W) :
    ptsPost (MpI w a r c l) (w.heap.size + 1 + 1) k W Exit.normal x (W.setCell ⟨w.heap.size + 1, 0, none⟩ (.int .u64 (un (mapK r l k ||| nth r (nth l k))))).drew :=
  ⟨(KeepsOthers.setCell _ _ _).trans (KeepsOthers.drew _), ⟨⟨World.cell?_setCell_same' _ _ _ (by rw [h.1.1]; rfl), by rw [frozen_drew_own, World.frozen?_setCell]; exact h.1.2.1, (World.cell?_setCell_other _ _ _ _ (by simp)).trans h.1.2.2⟩, (h.2.setCell (by simp) _).drew⟩,
    World.cell?_setCell_other _ _ _ _ (by simp), by rw [frozen_drew_own, World.frozen?_setCell]⟩
set_option maxRecDepth 20000 in
set_option maxHeartbeats 4000000 in
theorem mapped_any (r : List (BitVec 64)) (s : BitVec 64) (a : Option Addr) (c : Nat) (w : World) (hT : Tab w) (hr : RU w a r) (hs : ∀ k, k < (memL s).length → nth (memL s) k < r.length) :
    Calls Tryd.prog 45 #[.slice a r.length c, .int .u64 (un s)] w fun e w' => e = .returned (.int .u64 (un (mapS r s))) ∧ Ext w w' := by
  refine (callsIn_wide (n := 9)).1 ?_
  refine callsIn_of_wp_marks Tryd.func45 rfl trivial ?_ rfl
  simp only [Tryd.ntmps45, List.size_toArray, List.length_cons, List.length_nil, Nat.reduceAdd, Nat.reduceSub, Array.replicate_succ, Array.replicate_zero, List.push_toArray, List.append_toArray, List.nil_append, List.cons_append]
  gi_wp2_with (refine ⟨trivial, ?_⟩; gi_at_call 46; refine (callsIn_wide.2 (points_any s _)).mono ?_; rintro _ _ ⟨rfl, rfl⟩)
  have hE3 : Ext w (((w.alloc (.cells #[.slice a r.length c] 22)).alloc (.cells #[.int .u64 0] 40)).alloc (.cells #[.int .u64 (un s)] 40)) := (((Ext.refl w).alloc _).alloc _).alloc _
  have hE1 : Ext (w.alloc (.cells #[.slice a r.length c] 22)) (((w.alloc (.cells #[.slice a r.length c] 22)).alloc (.cells #[.int .u64 0] 40)).alloc (.cells #[.int .u64 (un s)] 40)) := ((Ext.refl _).alloc _).alloc _
  have b0 := (Bx1.new w (.slice a r.length c) 22).ext hE1
  have b1 := ((Bx1.new (w.alloc (.cells #[.slice a r.length c] 22)) (.int .u64 0) 40).ext ((Ext.refl _).alloc (.cells #[.int .u64 (un s)] 40))).at (b' := w.heap.size + 1) (by simp)
  have b2 := (Bx1.new ((w.alloc (.cells #[.slice a r.length c] 22)).alloc (.cells #[.int .u64 0] 40)) (.int .u64 (un s)) 40).at (b' := w.heap.size + 1 + 1) (by simp)
  have hI0 : MpI w a r c (memL s) 0 (((w.alloc (.cells #[.slice a r.length c] 22)).alloc (.cells #[.int .u64 0] 40)).alloc (.cells #[.int .u64 (un s)] 40)) := ⟨⟨b1.c, b1.f, b0.c⟩, hE3⟩
  have hc3 : (((w.alloc (.cells #[.slice a r.length c] 22)).alloc (.cells #[.int .u64 0] 40)).alloc (.cells #[.int .u64 (un s)] 40)).cell? ⟨w.heap.size + 1 + 1, 0, none⟩ = some (ptsSt s 0) := b2.c
  have hf3 := b2.f
  clear b0 b1 b2 hE1
  have hs3 : (((w.alloc (.cells #[.slice a r.length c] 22)).alloc (.cells #[.int .u64 0] 40)).alloc (.cells #[.int .u64 (un s)] 40)).heap.size = w.heap.size + 3 := by simp
  generalize ((w.alloc (.cells #[.slice a r.length c] 22)).alloc (.cells #[.int .u64 0] 40)).alloc (.cells #[.int .u64 (un s)] 40) = w3 at *
  refine wpIn_rangeFunc_pts rfl (by decide) (gf := 83) (b := w.heap.size + 1 + 1) rfl trivial (enters_of Tryd.func83 (by kernel_rfl) rfl) (points1_pts _ (by decide) _ s) rfl hc3 hf3
    (MpI w a r c (memL s)) (MpI.own (by omega)) (fun k A v h => h.set v) (fun k A h => ⟨h.1, h.2.drew⟩) (fun k A h => hT.ext h.2) hI0
    (fun x => { tmps := #[.slice a r.length c, .int .u64 (un s), .pointer (some ⟨w.heap.size, 0, none⟩), undef, .int .u64 0, .pointer (some ⟨w.heap.size + 1, 0, none⟩), .int .i64 ((x : Nat) : Int), .int .u64 (un s), .func (.func 83) #[] #[.pointer (some ⟨w.heap.size + 1 + 1, 0, none⟩)], .int .i64 ((x : Nat) : Int), undef, undef, undef, undef, undef, undef, undef], defers := [] }) ?assign ?body ?done
  case assign =>
    intro l k W K hK
    gi_wp2
    exact hK
  case body =>
    intro l k W hk hI
    have HII := Lib.hid hI
    obtain ⟨⟨i0, i1, i2⟩, i3⟩ := hI
    obtain ⟨b1, o1, rfl, hb1, hc1⟩ := (hr.ext i3).get (hs k hk)
    have hmx : Tryd.prog.follows .mixedOrders = true := by kernel_rfl
    gi_wp2
    gi_region_with_o (fail)
    all_goals gi_wp2
    all_goals (try go_bits)
    all_goals exact HII.out.put
  case done =>
    intro D W hD hI hK
    obtain ⟨⟨i0, i1, i2⟩, i3⟩ := hI
    gi_wp2
    refine ⟨by simp, .inl ⟨_, _, rfl, run_takeDeferred hK, ?_⟩⟩
    refine ⟨_, results_tmp rfl _ _ _, ?_⟩
    exact ⟨rfl, i3.trans (belowK_b (w := w) (Nat.le_refl _) W D _ _ (by omega) hK rfl rfl)⟩
end Wt

/- Walks: relation.Has at seriality, reflexivity and transitivity (printed by gen_has.py). -/
namespace Wt
open Go Go.RowKit Go.Maps Go.Proofs Fm

theorem relCheck_ok {r : List (BitVec 64)} (h : relCheck r = 0) : r.length ≤ 64 ∧ ∀ w, w < r.length → Sub (nth r w) (allW r.length) := by
  unfold relCheck at h
  split at h
  · cases h
  · refine ⟨by omega, fun w hw => ?_⟩
    split at h
    · cases h
    · next hb =>
      have h2 : relBad r = false := by simpa using hb
      unfold relBad outL at h2
      rw [List.any_eq_false] at h2
      have h3 := h2 _ (nth_mem hw)
      unfold outOne at h3
      exact andNot_zero.1 (by simpa using h3)
theorem has4_eq {r : List (BitVec 64)} (h : relCheck r = 0) : hasB r 4 = traB r := by unfold hasB; rw [h]; rfl
theorem has1_eq {r : List (BitVec 64)} (h : relCheck r = 0) : hasB r 1 = serB r := by unfold hasB; rw [h]; rfl
theorem has2_eq {r : List (BitVec 64)} (h : relCheck r = 0) : hasB r 2 = refB r := by unfold hasB; rw [h]; rfl
theorem has_bad {r : List (BitVec 64)} {p : Int} (h : relCheck r ≠ 0) : hasB r p = false := by
  unfold hasB
  rw [show (relCheck r == 0) = false by simpa using h]
  rfl
theorem sub_bit (S : BitVec 64) (k : Nat) (_hk : k < 64) : ∀ x y, un ((S >>> k) &&& 1#64) = x → (if bt S k then (1 : Int) else 0) = y → x = y := fun x y hx hy => by
  rw [← hx, ← hy]
  cases hb : bt S k
  · have : (S >>> k) &&& 1#64 = 0#64 := by
      refine bt_ext fun j hj => ?_
      rw [bt_and, bt_zero]
      by_cases h0 : j = 0
      · subst h0
        have e : bt (S >>> k) 0 = bt S k := by simp [bt]
        rw [e, hb]; rfl
      · have e : bt 1#64 j = false := by have := bt_shl1 (k := j) 0; simp only [BitVec.shiftLeft_zero] at this; rw [this]; simp [h0]
        rw [e]; simp
    rw [this]; rfl
  · have : (S >>> k) &&& 1#64 = 1#64 := by
      refine bt_ext fun j hj => ?_
      rw [bt_and]
      by_cases h0 : j = 0
      · subst h0
        have e : bt (S >>> k) 0 = bt S k := by simp [bt]
        rw [e, hb]; rfl
      · have e : bt 1#64 j = false := by have := bt_shl1 (k := j) 0; simp only [BitVec.shiftLeft_zero] at this; rw [this]; simp [h0]
        rw [e]; simp
    rw [this]; rfl
set_option maxRecDepth 20000 in
set_option maxHeartbeats 4000000 in
theorem has4_any (r : List (BitVec 64)) (a : Option Addr) (c : Nat) (w : World) (hT : Tab w) (hr : RU w a r) :
    Calls Tryd.prog 14 #[.slice a r.length c, .int .i64 4] w fun e w' => e = .returned (.bool (hasB r 4)) ∧ Ext w w' := by
  have hE0 : Ext w ((w.alloc (.cells #[.slice a r.length c] 22)).alloc (.cells #[.bool false] 4)) := ((Ext.refl w).alloc _).alloc _
  have b0 := (Bx1.new w (.slice a r.length c) 22).ext ((Ext.refl _).alloc (.cells #[.bool false] 4))
  have b1 := (Bx1.new (w.alloc (.cells #[.slice a r.length c] 22)) (.bool false) 4).at (b' := w.heap.size + 1) (by simp)
  have HE := Lib.hid hE0
  have HT := Lib.hid (hT.ext hE0)
  have HR := Lib.hid (hr.ext hE0)
  have HB0 := Lib.hid b0
  have HB1 := Lib.hid b1
  have hln := hr.len
  have hck0 := relCheck_any a r c _ (hr.ext hE0)
  clear hT hr hE0
  obtain ⟨c0, -⟩ := b0
  obtain ⟨c1, f1⟩ := b1
  by_cases hck : relCheck r = 0
  · rw [has4_eq hck]
    rw [hck] at hck0
    have HCK := Lib.hid hck0
    clear hck0
    obtain ⟨h64, hin⟩ := relCheck_ok hck
    have HIN := Lib.hid hin
    clear hck hin
    go_enter Tryd.func14, Tryd.ntmps14
    go_wp2_with fail
    generalize ((w.alloc (.cells #[.slice a r.length c] 22)).alloc (.cells #[.bool false] 4)) = w2 at *
    refine HCK.out.mono ?_
    rintro _ _ ⟨rfl, rfl⟩
    dsimp only
    go_wp2_with fail
    have HTB := Lib.hid (traB_map rfl HIN.out)
    have HMP : Hid (∀ W x, Ext w2 W → x < r.length → Calls Tryd.prog 45 #[.slice a r.length c, .int .u64 (un (nth r x))] W fun e w' => e = .returned (.int .u64 (un (mapS r (nth r x)))) ∧ Ext W w') := Lib.hid fun W x e hx => mapped_any r (nth r x) a c W (HT.out.ext e) (HR.out.ext e) fun k hk => memL_ltN (HIN.out x hx) hk
    go_loopw [46] (fun i wr => ∃ k : Nat, k ≤ r.length ∧ i = .int .i64 (k : Int) ∧ Hid (Ext w2 wr) ∧ Hid (∀ j, j < k → mapS r (nth r j) &&& ~~~ nth r j = 0#64)) (fun i _ => r.length - (RowKit.intOf i).toNat)
    case atStart => exact ⟨0, Nat.zero_le _, rfl, Lib.hid (Ext.refl _), Lib.hid fun _ h => absurd h (Nat.not_lt_zero _)⟩
    case round =>
      clear c0 c1 f1
      obtain ⟨k, hk, rfl, HX, HNO⟩ := hrel
      obtain ⟨d0, -⟩ := HB0.out.ext HX.out
      obtain ⟨d1, e1⟩ := HB1.out.ext HX.out
      have dl0 := (HB0.out.ext HX.out).lt
      have dl1 := (HB1.out.ext HX.out).lt
      by_cases hkl : k < r.length
      · obtain ⟨g, q, rfl, hg, hc⟩ := (HR.out.ext HX.out).get hkl
        have HKP : Hid (∀ w', Ext wr.drew w' → w'.cell? ⟨w.heap.size, 0, none⟩ = some (.slice (some ⟨g, q, none⟩) r.length c) ∧ w'.cell? ⟨g, q + k, none⟩ = some (.int .u64 (un (nth r k)))) := Lib.hid fun w' e => ⟨e.cell d0, e.cell hc⟩
        have HFN : Hid (∀ w', Ext wr.drew w' → w'.cell? ⟨w.heap.size + 1, 0, none⟩ = some (.bool false) ∧ w'.frozen? ⟨w.heap.size + 1, 0, none⟩ = false ∧ w.heap.size + 1 < w'.heap.size) := Lib.hid fun w' e => ⟨((HB1.out.ext HX.out.drew).ext e).c, ((HB1.out.ext HX.out.drew).ext e).f, ((HB1.out.ext HX.out.drew).ext e).lt⟩
        cases hz : (un (mapS r (nth r k) &&& ~~~ nth r k) != 0)
        all_goals
          have HZ := Lib.hid hz
          go_wp2_with fail
          go_region_held3 (fun w' => w'.cell? ⟨w.heap.size, 0, none⟩ = some (.slice (some ⟨g, q, none⟩) r.length c) ∧ w'.cell? ⟨g, q + k, none⟩ = some (.int .u64 (un (nth r k)))) (first | go_keep | exact HKP.out _ (by assumption)) (first | (go_at_call 45; refine (HMP.out _ k (by first | exact HX.out.drew | exact HX.out) hkl).mono ?_; rintro _ w3 ⟨rfl, hE3⟩) | fail)
        all_goals have HE3 := Lib.hid (HX.out.drew.trans hE3)
        · have hnz : mapS r (nth r k) &&& ~~~ nth r k = 0#64 := by
            have h := HZ.out
            rw [← un_zero] at h
            exact un_inj.1 (by simpa using h)
          have HNZ := Lib.hid hnz
          clear hnz hz
          go_wp2_with fail
          go_roundw
          case rel => exact ⟨k + 1, hkl, by go_num, HE3, Lib.hid (lt_step HNO.out HNZ.out)⟩
          case measure => simp [RowKit.intOf]; omega
        · have hb : traB r = false := by
            cases hq : traB r
            · rfl
            · have h := HTB.out.1 hq k hkl
              have h2 := HZ.out
              rw [h, un_zero] at h2
              cases h2
          have HBF := Lib.hid hb
          clear hb hz
          obtain ⟨e2, e3, e4⟩ := HFN.out _ hE3
          go_wp2_with fail
          refine bodyPost_ret (v := .bool false) ?_ rfl ?_
          · rw [results_cell_one rfl]
            go_simp
          · exact ⟨by rw [HBF.out], ((HE.out.trans HE3.out).setCell (by simp) _)⟩
      · obtain rfl : k = r.length := by omega
        have hb : traB r = true := HTB.out.2 HNO.out
        have HBT := Lib.hid hb
        clear hb
        go_wp2_with fail
        refine bodyPost_ret (v := .bool true) ?_ rfl ?_
        · rw [results_cell_one rfl]
          go_simp
        · exact ⟨by rw [HBT.out], ((HE.out.trans HX.out).setCell (by simp) _)⟩
  · rw [has_bad hck]
    have hq : (relCheck r != 0) = true := by simpa using hck
    have HCK := Lib.hid hck0
    clear hck0 hck
    generalize relCheck r = er at *
    go_enter Tryd.func14, Tryd.ntmps14
    go_wp2_with fail
    generalize ((w.alloc (.cells #[.slice a r.length c] 22)).alloc (.cells #[.bool false] 4)) = w2 at *
    refine HCK.out.mono ?_
    rintro _ _ ⟨rfl, rfl⟩
    dsimp only
    go_wp2_with fail
    refine bodyPost_ret (v := .bool false) ?_ rfl ?_
    · rw [results_cell_one rfl]
      go_simp
    · exact ⟨rfl, HE.out.setCell (by simp) _⟩
end Wt

/- Walk: filter.Transitive where it answers, over a contract of relation.Has. -/
namespace Wt
open Go Go.RowKit Go.Maps Go.Proofs Fm

set_option maxHeartbeats 1000000 in
theorem trans1_any (r : List (BitVec 64)) (a : Option Addr) (c : Nat) (w : World) (hT : Tab w) (hu : RU w a r) :
    Calls Tryd.prog 39 #[.slice a r.length c] w fun e w' => e = .returned (.bool (!hasB r 4)) ∧ Ext w w' := by
  have H := Lib.hid (has4_any r a c w hT hu)
  clear hu hT
  go_enter Tryd.func39, Tryd.ntmps39
  go_wp2_with (go_at_call 14; refine H.out.mono ?_; rintro _ w1 ⟨rfl, hE⟩)
  go_ret
  exact ⟨rfl, hE⟩
set_option maxRecDepth 20000 in
set_option maxHeartbeats 8000000 in
theorem transitive_any (M : Mo) (va ra : Option Addr) (vc rc : Nat) (fa : Option Addr) (fc : Nat) (f : List Nd) (w : World) (hT : Tab w) (hm : RM w va ra M) (hf : RN w fa f) (hl : lookErr M f = 0) (hat : M.rel.any (fun r => !hasB r 4) = false) :
    Calls Tryd.prog 13 #[.agg #[.int .i64 M.worlds, .slice va M.val.length vc, .slice ra M.rel.length rc], .slice fa f.length fc] w fun e w' => RetR (filLa M f true) (natI (filN M f)) (lookErr M f) e w w' := by
  have hE0 := ((Ext.refl w).alloc (.cells #[.int .i64 M.worlds, .slice va M.val.length vc, .slice ra M.rel.length rc] 25)).alloc (.cells #[.int .i64 0, .slice none 0 0, .slice none 0 0] 25)
  have hbx := (MoBox.new w M.worlds M.val M.rel va vc ra rc 25).ext ((Ext.refl _).alloc (.cells #[.int .i64 0, .slice none 0 0, .slice none 0 0] 25))
  have hr0 := OutAt.new1 w (.cells #[.int .i64 M.worlds, .slice va M.val.length vc, .slice ra M.rel.length rc] 25) (.int .i64 0) (.slice none 0 0) (.slice none 0 0) 25
  have HE := Lib.hid hE0
  have HT := Lib.hid (hT.ext hE0)
  have HM := Lib.hid (hm.ext hE0)
  have HF := Lib.hid (hf.ext hE0)
  have HB := Lib.hid hbx
  have HR := Lib.hid hr0
  have hs0 : ((w.alloc (.cells #[.int .i64 M.worlds, .slice va M.val.length vc, .slice ra M.rel.length rc] 25)).alloc (.cells #[.int .i64 0, .slice none 0 0, .slice none 0 0] 25)).heap.size = w.heap.size + 2 := by simp
  have HSZ := Lib.hid hs0
  obtain ⟨m0, m1, m2⟩ := hbx
  dsimp only at m0 m1 m2
  clear hE0 hf hm hr0 hs0 hT
  obtain ⟨N, vk⟩ := vok_of hl
  have HVK := Lib.hid vk
  have HL := Lib.hid hl
  have HC : Hid (filN M f = (List.range N).map (clsOf (subL M (rt f)) N)) := Lib.hid (by unfold filN; rw [if_pos hl, vk.nn])
  have HA : Hid (filLa M f true = filM M (fFacts (fCompact f)) (repL (subL M (rt f)) N) (permL (subL M (rt f)) (fCompact f) true)) := Lib.hid (by unfold filLa; rw [if_pos hl, vk.nn, vk.fx, vk.cc])
  have HLK : Hid (∀ W, RM W va ra M → RN W fa f → Calls Tryd.prog 30 #[.agg #[.int .i64 M.worlds, .slice va M.val.length vc, .slice ra M.rel.length rc], .slice fa f.length fc] W fun e w' => RetV5 M va ra vc rc f e W w') := Lib.hid fun W h1 h2 => look_any M va ra vc rc fa fc f W h1 h2 hl
  clear hl vk
  have HAT := Lib.hid hat
  have HCT : Hid (∀ W, Tab W → RR W ra M.rel → Calls Tryd.prog 38 #[.slice ra M.rel.length rc, .func (.func 39) #[] #[]] W fun e w' => e = .returned (.bool (M.rel.any fun r => !hasB r 4)) ∧ Ext W w') := Lib.hid fun W hTW hr => containsFunc_g 39 [] _ ra M.rel rc W hr cf_trans1 fun W2 a r c e hu => trans1_any r a c W2 (hTW.ext e) hu
  clear hat
  go_enter Tryd.func13, Tryd.ntmps13
  go_wp2_with fail
  generalize (w.alloc (.cells #[.int .i64 M.worlds, .slice va M.val.length vc, .slice ra M.rel.length rc] 25)).alloc (.cells #[.int .i64 0, .slice none 0 0, .slice none 0 0] 25) = w0 at *
  refine (HLK.out _ HM.out HF.out).mono ?_
  rintro _ w1 ⟨b, ca, sa, cc, sc, rfl, hb, hv, hn, hs, hE1⟩
  rw [HVK.out.vw.ok.worlds] at hv
  have HV := Lib.hid hv
  have HN := Lib.hid hn
  have HS := Lib.hid hs
  have HE1 := Lib.hid hE1
  clear hb hv hn hs hE1 m0 m1 m2
  obtain ⟨m0, m1, m2⟩ := HB.out.ext HE1.out
  have mlt := World.block_lt_of_cell? _ _ m0
  dsimp only at m0 m1 m2 mlt ⊢
  go_wp2_with fail
  have hE3 : Ext w1 (w1.alloc (.cells #[.pointer (some ⟨b, 0, none⟩)] 57)) := (Ext.refl w1).alloc _
  have hc3 : (w1.alloc (.cells #[.pointer (some ⟨b, 0, none⟩)] 57)).cell? ⟨w1.heap.size, 0, none⟩ = some (.pointer (some ⟨b, 0, none⟩)) := by simp
  have HC3 := Lib.hid hc3
  have HE3 := Lib.hid (HE1.out.trans hE3)
  have HEy := Lib.hid hE3
  clear hE3 hc3
  generalize w1.alloc (.cells #[.pointer (some ⟨b, 0, none⟩)] 57) = w3 at *
  refine (HCT.out _ ((HT.out.ext HE3.out)) (HM.out.rel.ext HE3.out)).mono ?_
  rintro _ w5 ⟨rfl, hE5⟩
  rw [HAT.out]
  have HEz := Lib.hid (HEy.out.trans hE5)
  have HE5 := Lib.hid (HE3.out.trans hE5)
  have HC5 := Lib.hid (hE5.cell HC3.out)
  have hlt5 := World.block_lt_of_cell? _ _ HC5.out
  have hcc5 := HC5.out
  clear hE5
  dsimp only at hlt5 ⊢
  go_wp2_with fail
  clear hlt5 hcc5
  refine (fbuild_any M N b (fCompact f) (subL M (rt f)) (permL (subL M (rt f)) (fCompact f) true) 40 [.pointer (some ⟨w1.heap.size, 0, none⟩)] va ra ca sa vc rc cc sc w5 (HV.out.ext HEz.out) (HM.out.ext HE5.out) (HN.out.ext HEz.out) (HS.out.ext HEz.out) HVK.out.vw.ok.most HVK.out.len HVK.out.vw.ok.val HVK.out.vw.ok.rel cf_trans2 ?_).mono ?_
  · intro W a x y e ha hx hy
    have h64 := HVK.out.vw.ok.most
    exact trans2_any b (N : Int) (subL M (rt f)) (fCompact f) va ra ca sa _ vc _ rc cc sc W (HV.out.ext (HEz.out.trans e)) (HN.out.ext (HEz.out.trans e)) (HS.out.ext (HEz.out.trans e)) HVK.out.same HVK.out.box a x y w1.heap.size (by omega) (by omega) (e.cell HC5.out)
  rintro _ w4 ⟨v4, r4, l4, c4, d4, e4, rfl, hk4, hE4⟩
  rw [← HA.out, ← HC.out] at hk4 ⊢
  have hwb : w.heap.size + 1 < w5.heap.size := by have := (HE5.out).size; have := HSZ.out; omega
  have HH := Lib.hid (HR.out.ext (HE5.out.trans hE4))
  have HK4 := Lib.hid hk4
  have HE4 := Lib.hid ((HE.out.trans HE5.out).trans hE4)
  have HWB := Lib.hid hwb
  clear hk4 hE4 hwb
  generalize hqm : filLa M f true = QM at *
  generalize hql : filN M f = QL at *
  have HQM := Lib.hid hqm
  have HQL := Lib.hid hql
  clear hqm hql
  obtain ⟨r0, rr1, rr2, rfz⟩ := HH.out
  have f0 := rfz 0
  have f1 := rfz 1
  have f2 := rfz 2
  have hrl9 := HH.out.lt
  clear rfz
  dsimp only
  go_wp2_with fail
  have HX := (((HH.out.set0 (.int .i64 QM.worlds)).set1 (.slice v4 QM.val.length c4)).set2 (.slice r4 QM.rel.length d4)).ext ((Ext.refl _).alloc (.cells #[.int .i64 QM.worlds, .slice v4 QM.val.length c4, .slice r4 QM.rel.length d4] 25))
  obtain ⟨d0, d1, d2, -⟩ := HX
  have hEx : Ext w ((((w4.setCell ⟨w.heap.size + 1, 0, none⟩ (.int .i64 QM.worlds)).setCell ⟨w.heap.size + 1, 1, none⟩ (.slice v4 QM.val.length c4)).setCell ⟨w.heap.size + 1, 2, none⟩ (.slice r4 QM.rel.length d4)).alloc (.cells #[.int .i64 QM.worlds, .slice v4 QM.val.length c4, .slice r4 QM.rel.length d4] 25)) := (((HE4.out.setCell (by simp) _).setCell (by simp) _).setCell (by simp) _).alloc _
  have hkF : ∀ w'', Agree w.heap.size ((((w4.setCell ⟨w.heap.size + 1, 0, none⟩ (.int .i64 QM.worlds)).setCell ⟨w.heap.size + 1, 1, none⟩ (.slice v4 QM.val.length c4)).setCell ⟨w.heap.size + 1, 2, none⟩ (.slice r4 QM.rel.length d4)).alloc (.cells #[.int .i64 QM.worlds, .slice v4 QM.val.length c4, .slice r4 QM.rel.length d4] 25)) w'' → RM w'' v4 r4 QM ∧ RI w'' l4 (natI QL) := fun w'' hg => HK4.out w'' (agree_end2 HWB.out (by have := HWB.out; omega) hg)
  generalize (((w4.setCell ⟨w.heap.size + 1, 0, none⟩ (.int .i64 QM.worlds)).setCell ⟨w.heap.size + 1, 1, none⟩ (.slice v4 QM.val.length c4)).setCell ⟨w.heap.size + 1, 2, none⟩ (.slice r4 QM.rel.length d4)).alloc (.cells #[.int .i64 QM.worlds, .slice v4 QM.val.length c4, .slice r4 QM.rel.length d4] 25) = W2 at *
  refine bodyPost_ret (v := .tuple #[.agg #[.int .i64 QM.worlds, .slice v4 QM.val.length c4, .slice r4 QM.rel.length d4], .slice l4 QL.length e4, .int .i64 0]) ?_ rfl ?_
  · rw [results_cell_two rfl]
    go_simp
  · rw [HQM.out, HQL.out]
    exact ⟨v4, r4, l4, c4, d4, e4, by rw [HL.out, natI_ln], hkF, hEx⟩
end Wt

/- Plain: what Transitive returns (printed by gen_frd.py). -/
namespace Wt
open Go Go.RowKit Go.Maps Go.Proofs Fm

theorem ok_rel {M : Mo} {N a : Nat} (ok : MoOk M N) (ha : a < M.rel.length) : relCheck (nth M.rel a) = 0 :=
  rel_ok (ok.row _ (nth_mem ha)) ok.most fun v hv => andNot_zero.1 (ok.relIn _ (nth_mem ha) _ (nth_mem (by rw [ok.row _ (nth_mem ha)]; exact hv)))
/-- What Transitive returns. -/
def trE (M : Mo) (f : List Nd) : Int := if lookErr M f ≠ 0 then lookErr M f else if M.rel.all traB then 0 else 12
def filTr (M : Mo) (f : List Nd) : Mo := if trE M f = 0 then filLa M f true else ⟨0, [], []⟩
def filTn (M : Mo) (f : List Nd) : List Nat := if trE M f = 0 then filN M f else []
theorem tr_err {M : Mo} {f : List Nd} (h : lookErr M f ≠ 0) : trE M f = lookErr M f ∧ filTr M f = ⟨0, [], []⟩ ∧ filTn M f = [] := by
  have e : trE M f = lookErr M f := if_pos h
  exact ⟨e, if_neg (by rw [e]; exact h), if_neg (by rw [e]; exact h)⟩
theorem tr_no {M : Mo} {f : List Nd} (h : lookErr M f = 0) (ht : M.rel.all traB = false) : trE M f = 12 ∧ filTr M f = ⟨0, [], []⟩ ∧ filTn M f = [] := by
  have e : trE M f = 12 := by unfold trE; rw [if_neg (by simp [h]), ht]; rfl
  exact ⟨e, if_neg (by rw [e]; decide), if_neg (by rw [e]; decide)⟩
theorem tr_yes {M : Mo} {f : List Nd} (h : lookErr M f = 0) (ht : M.rel.all traB = true) : trE M f = 0 ∧ filTr M f = filLa M f true ∧ filTn M f = filN M f := by
  have e : trE M f = 0 := by unfold trE; rw [if_neg (by simp [h]), ht]; rfl
  exact ⟨e, if_pos e, if_pos e⟩
theorem all_no {l : List (List (BitVec 64))} {p : List (BitVec 64) → Bool} {k : Nat} (hk : k < l.length) (h : p (nth l k) = false) : l.all p = false := by
  cases hq : l.all p
  · rfl
  · have := List.all_eq_true.1 hq _ (nth_mem hk)
    rw [h] at this; cases this
theorem all_yes {l : List (List (BitVec 64))} {p : List (BitVec 64) → Bool} (h : ∀ k, k < l.length → p (nth l k) = true) : l.all p = true := List.all_eq_true.2 fun x hx => by
  obtain ⟨k, hk, rfl⟩ := mem_nth hx
  exact h k hk
end Wt
