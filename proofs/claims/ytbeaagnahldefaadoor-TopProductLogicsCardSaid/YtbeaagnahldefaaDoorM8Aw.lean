/- A range over relation.points with an early return: the law of the statement, the iterator's contract. -/
import Derived.Test.YtbeaagnahldefaaDoorM8Av
import Derived.Test.YtbeaagnahldefaaDoorM8Aa
import Derived.Sort.QuietIn
import Derived.Shelf.RegionOpen
namespace Wt
open Go Go.RowKit Go.Maps Go.Proofs Fm
attribute [local go_sem] Oper.semAt_some

section
variable {F : Fence} {n : Nat} {P : Program}
/-- As PtsAt, but a round may end the walk. -/
def PtsAtS (F : Fence) (n : Nat) (P : Program) (g b : Nat) (xs : List Nat) (st : Nat → Value) : Prop :=
  ∀ (l : Nat) (J : Nat → World → Prop) (Jx : World → Prop) (W : World),
    (∀ k A v, J k A → J k (A.setCell ⟨b, 0, none⟩ v)) → (∀ k A, J k A → J k A.drew) → (∀ k A, J k A → Tab A) →
    (∀ k A, k < xs.length → J k A → A.cell? ⟨b, 0, none⟩ = some (st k) → A.frozen? ⟨b, 0, none⟩ = false → YieldAt F (n - 1) P l #[.int .i64 ((nth xs k : Nat) : Int)] A fun e A' => (e = .returned (.bool true) ∧ J (k + 1) A' ∧ A'.cell? ⟨b, 0, none⟩ = A.cell? ⟨b, 0, none⟩ ∧ A'.frozen? ⟨b, 0, none⟩ = A.frozen? ⟨b, 0, none⟩) ∨ (e = .returned (.bool false) ∧ Jx A')) →
    J 0 W → W.cell? ⟨b, 0, none⟩ = some (st 0) → W.frozen? ⟨b, 0, none⟩ = false →
    CallsIn F n P g #[.func (.yield l) #[] #[], .pointer (some ⟨b, 0, none⟩)] W fun e W' => (∃ v, e = .returned v) ∧ (J xs.length W' ∨ Jx W')
/-- How a round ends. -/
def ptsPostS (I : Nat → World → Prop) (Ix : Code → World → Prop) (b k : Nat) (W : World) : Exit → Act → World → Prop
  | .normal, _, W' => KeepsOthers W W' ∧ I (k + 1) W' ∧ W'.cell? ⟨b, 0, none⟩ = W.cell? ⟨b, 0, none⟩ ∧ W'.frozen? ⟨b, 0, none⟩ = W.frozen? ⟨b, 0, none⟩
  | .ret, _, W' => KeepsOthers W W' ∧ Ix .ret W'
  | .exit id, _, W' => KeepsOthers W W' ∧ Ix (.exit id) W'
  | _, _, _ => False
theorem wpIn_rangeFunc_ptsS {g : Operand} {ps : Array Tmp} {assign body : Code} {Q : Exit → Act → World → Prop} {a : Act} {w : World}
    (hro : F.round = none) (h1 : 1 ≤ n) {gf b : Nat} (hg : a.eval g = .func (.func gf) #[] #[.pointer (some ⟨b, 0, none⟩)]) (hFg : F.fn gf) (eg : ∀ args w, (callFunc gf args).run P w = .ok (.enter gf args) w)
    {xs : List Nat} {st : Nat → Value} (hseq : PtsAtS F (n - 1) P gf b xs st) (hps : ps.size = 1)
    (hb0 : w.cell? ⟨b, 0, none⟩ = some (st 0)) (hbf : w.frozen? ⟨b, 0, none⟩ = false)
    (I : Nat → World → Prop) (Ix : Code → World → Prop) (hI : OwnFrom w.heap.size I) (hIx : OwnFrom w.heap.size Ix) (hIb : ∀ k A v, I k A → I k (A.setCell ⟨b, 0, none⟩ v)) (hId : ∀ k A, I k A → I k A.drew) (hIT : ∀ k A, I k A → Tab A) (h0 : I 0 w) (a₁ : Nat → Act)
    (hassign : ∀ (l k : Nat) (W : World) (K : Act → World → Prop), K (a₁ (nth xs k)) W →
      assign.wpIn (F.inRound l) (n - 1 - 1) P (Exit.then K (fun _ _ _ => False)) { tmps := (ps.zip #[.int .i64 ((nth xs k : Nat) : Int)]).foldl (fun t (p, v) => t.setIfInBounds p v) a.tmps, defers := [] } W)
    (hbody : ∀ (l k : Nat) (W : World), k < xs.length → I k W → body.wpIn (F.inRound l) (n - 1 - 1) P (ptsPostS I Ix b k W) (a₁ (nth xs k)) W)
    (hdone : ∀ (D : Nat) (W : World), w.heap.size ≤ D → I xs.length W → W.heap[D]? = some (.deferred (some [])) → Q .normal { a with defers := { target := .collected D, args := #[] } :: a.defers } W)
    (hstop : ∀ (D : Nat) (c : Code) (W : World), w.heap.size ≤ D → Ix c W → W.heap[D]? = some (.deferred (some [])) → c.wpIn F n P Q { a with defers := { target := .collected D, args := #[] } :: a.defers } W) :
    (Code.rangeFunc g ps assign body).wpIn F n P Q a w := by
  have hbl : b < w.heap.size := World.block_lt_of_cell? _ _ hb0
  refine wpIn_rangeFunc ?_
  intro fn hfn
  rw [hro]
  obtain ⟨rec, hrec⟩ : ∃ rec : LoopState → Option Code → Loop, rec = fun st pe => { state := st, pending := pe, fn, tmps := a.tmps, params := ps, assign, body, defers := w.heap.size } := ⟨_, rfl⟩
  obtain ⟨W1, hW1⟩ : ∃ W1, (w.alloc (.deferred (some []))).alloc (.loop (rec .ready none)) = W1 := ⟨_, rfl⟩
  have hL1 : W1.heap[w.heap.size + 1]? = some (.loop (rec .ready none)) := by
    rw [← hW1]; have := World.alloc_heap_new (w.alloc (.deferred (some []))) (.loop (rec .ready none)); rwa [World.size_alloc] at this
  have hK1 : W1.heap[w.heap.size]? = some (.deferred (some [])) := by
    rw [← hW1]; exact (Below.heap_alloc _ _ _ (by simp)).trans (World.alloc_heap_new w _)
  have hI1 : I 0 W1 := by rw [← hW1]; exact hI.alloc _ (hI.alloc _ h0)
  have hold : W1.heap[b]? = w.heap[b]? := by
    rw [← hW1]; exact (Below.heap_alloc _ _ b (by simp; omega)).trans (Below.heap_alloc _ _ b hbl)
  refine ⟨w.heap.size + 1, [{ target := .collected w.heap.size, args := #[] }], W1, { target := .fn (.func gf) #[.pointer (some ⟨b, 0, none⟩)], args := #[.func (.yield (w.heap.size + 1)) #[] #[]] }, W1, gf,
    #[.func (.yield (w.heap.size + 1)) #[] #[]] ++ #[.pointer (some ⟨b, 0, none⟩)], W1, ?_, ?_, ?_, ?_, fun _ => h1, ?_⟩
  · rw [← hW1, hrec]; exact run_enterLoop_outer _ _ _ _ _
  · simp only [resolve, hg]
    simp [go_sem]
  · intro f' hf'; simp [Target.leads] at hf'; subst hf'; exact hFg
  · simp [invoke, go_sem, eg]
  · refine (hseq (w.heap.size + 1)
      (fun k W => I k W ∧ W.heap[w.heap.size + 1]? = some (.loop (rec .ready none)) ∧ W.heap[w.heap.size]? = some (.deferred (some [])))
      (fun W => ∃ c, Ix c W ∧ W.heap[w.heap.size + 1]? = some (.loop (rec .done (some c))) ∧ W.heap[w.heap.size]? = some (.deferred (some [])))
      W1
      (fun k A v h => ⟨hIb k A v h.1, (Below.heap_setCell A ⟨b, 0, none⟩ v _ (by show w.heap.size + 1 ≠ b; omega)).trans h.2.1, (Below.heap_setCell A ⟨b, 0, none⟩ v _ (by show w.heap.size ≠ b; omega)).trans h.2.2⟩)
      (fun k A h => ⟨hId k A h.1, h.2.1, h.2.2⟩)
      (fun k A h => hIT k A h.1)
      ?_ ⟨hI1, hL1, hK1⟩ ((World.cell?_of_block hold).trans hb0) ((World.frozen?_of_block hold).trans hbf)).mono ?_
    · rintro k W hk ⟨hi, hl, hkd⟩ hbc hbz
      have hlt : w.heap.size + 1 < W.heap.size := (Array.getElem?_eq_some_iff.1 hl).1
      have hy := run_yield (P := P) (args := #[.int .i64 ((nth xs k : Nat) : Int)]) hl (by rw [hrec]; exact hps.symm)
      rw [hrec] at hy
      refine ⟨fn, _, assign, body, hy, roundIn_of_wpIn hfn (hassign _ k W _ ⟨_, run_beginRound hl (by rw [hrec]), ?_⟩)⟩
      have hl2 : (W.putObj (w.heap.size + 1) (.loop { rec .ready none with state := .busy })).heap[w.heap.size + 1]? = some (.loop { rec .ready none with state := .busy }) := World.putObj_heap_same hlt
      have hk2 : (W.putObj (w.heap.size + 1) (.loop { rec .ready none with state := .busy })).heap[w.heap.size]? = some (.deferred (some [])) := (World.putObj_heap_other (by omega)).trans hkd
      have fin : ∀ (jump : Option Code) (W3 : World), KeepsOthers (W.putObj (w.heap.size + 1) (.loop { rec .ready none with state := .busy })) W3 →
          (Instr.endRound (w.heap.size + 1) jump).run P W3 = .ok (.bool jump.isNone) (W3.putObj (w.heap.size + 1) (.loop (rec (if jump.isNone then .ready else .done) jump))) ∧
          W3.heap[w.heap.size + 1]? = some (.loop { rec .ready none with state := .busy }) ∧
          (W3.putObj (w.heap.size + 1) (.loop (rec (if jump.isNone then .ready else .done) jump))).heap[w.heap.size + 1]? = some (.loop (rec (if jump.isNone then .ready else .done) jump)) ∧
          (W3.putObj (w.heap.size + 1) (.loop (rec (if jump.isNone then .ready else .done) jump))).heap[w.heap.size]? = some (.deferred (some [])) := fun jump W3 hk3 => by
        have hl3 := hk3.same _ _ hl2 rfl
        have := run_endRound (P := P) jump hl3
        rw [hrec] at this ⊢
        exact ⟨this, by rw [hrec] at hl3; exact hl3, World.putObj_heap_same (Array.getElem?_eq_some_iff.1 hl3).1, (World.putObj_heap_other (by omega)).trans (hk3.same _ _ hk2 rfl)⟩
      refine wpIn_mono (hbody _ k _ hk (hI.putObj _ hi (by omega) hl rfl)) ?_
      rintro e a3 W3 hp
      cases e with
      | normal =>
        obtain ⟨hk3, hi3, hc3, hf3⟩ := hp
        obtain ⟨hr, hl3, hl4, hk4⟩ := fin none W3 hk3
        obtain ⟨c1, f1⟩ := putObj_cell (W := W) (l := w.heap.size + 1) (b := b) (.loop { rec .ready none with state := .busy }) (by omega)
        exact ⟨_, _, hr, .inl ⟨rfl, ⟨hI.putObj _ hi3 (by omega) hl3 rfl, hl4, hk4⟩, ((putObj_cell _ (by omega)).1.trans hc3).trans c1, ((putObj_cell _ (by omega)).2.trans hf3).trans f1⟩⟩
      | ret =>
        obtain ⟨hk3, hi3⟩ := hp
        obtain ⟨hr, hl3, hl4, hk4⟩ := fin (some .ret) W3 hk3
        exact ⟨_, _, hr, .inr ⟨rfl, .ret, hIx.putObj _ hi3 (by omega) hl3 rfl, hl4, hk4⟩⟩
      | exit id =>
        obtain ⟨hk3, hi3⟩ := hp
        obtain ⟨hr, hl3, hl4, hk4⟩ := fin (some (.exit id)) W3 hk3
        exact ⟨_, _, hr, .inr ⟨rfl, .exit id, hIx.putObj _ hi3 (by omega) hl3 rfl, hl4, hk4⟩⟩
      | goto t => exact hp.elim
      | panic ch => exact hp.elim
      | outgrown => exact hp.elim
    · rintro e W2 ⟨⟨v, rfl⟩, (⟨hi, hl, hk⟩ | ⟨c, hi, hl, hk⟩)⟩
      · exact ⟨none, _, by have := run_endLoop (P := P) hl (by rw [hrec]; simp); rw [hrec] at this; exact this, hdone _ _ (Nat.le_refl _) (hI.putObj _ hi (by omega) hl rfl) ((World.putObj_heap_other (by omega)).trans hk)⟩
      · exact ⟨some c, _, by have := run_endLoop (P := P) hl (by rw [hrec]; simp); rw [hrec] at this; exact this, hstop _ c _ (Nat.le_refl _) (hIx.putObj _ hi (by omega) hl rfl) ((World.putObj_heap_other (by omega)).trans hk)⟩
end
set_option maxRecDepth 20000 in
set_option maxHeartbeats 4000000 in
theorem points1_ptsS (n : Nat) (hn : 1 ≤ n) (b : Nat) (s : BitVec 64) : PtsAtS Fence.wide n Tryd.prog 83 b (memL s) (ptsSt s) := by
  intro l J Jx W hJs hJd hJT hY h0 hc hf
  have HS := Lib.hid hJs
  have HT := Lib.hid hJT
  have HY := Lib.hid hY
  clear hJs hJd hJT hY
  refine callsIn_of_wp Tryd.func83 rfl trivial ?_ rfl
  simp only [Tryd.ntmps83, List.size_toArray, List.length_cons, List.length_nil, Nat.reduceAdd, Nat.reduceSub, Array.replicate_succ, Array.replicate_zero, List.push_toArray, List.append_toArray, List.nil_append, List.cons_append]
  gi_wp2
  gi_loopw [] (fun wr => ∃ k, k ≤ (memL s).length ∧ Hid (J k wr) ∧ wr.cell? ⟨b, 0, none⟩ = some (ptsSt s k) ∧ wr.frozen? ⟨b, 0, none⟩ = false) (fun wr => ptsMu b wr)
  case atStart => exact ⟨0, Nat.zero_le _, Lib.hid h0, hc, hf⟩
  case round =>
    clear h0 hc hf
    obtain ⟨k, hk, HJ, hc, hf⟩ := hrel
    have hmu := Lib.hid (ptsMu_at hc)
    by_cases hkl : k < (memL s).length
    · have hne := dropK_ne hkl
      have htz := tz_any (dropK s k) hne wr (HT.out _ _ HJ.out)
      rw [dropK_tz hkl] at htz
      have HZ : Hid (CallsIn Fence.wide (n - 1) Tryd.prog 84 #[.int .u64 (un (dropK s k))] wr fun e w' => e = .returned (.int .i64 ((nth (memL s) k : Nat) : Int)) ∧ wr = w') := Lib.hid (callsIn_wide.2 htz)
      obtain ⟨fn, tmps, assign, body, hy, hR⟩ := HY.out k wr hkl HJ.out hc hf
      have hne2 : (un (dropK s k) != 0) = true := by
        have h1 : un (dropK s k) ≠ un 0#64 := fun h => hne (un_inj.1 h)
        rw [un_zero] at h1
        simpa using h1
      have HD : Hid (dropK s (k + 1) = dropK s k &&& (dropK s k - 1#64)) := Lib.hid rfl
      clear htz hne
      change wr.cell? ⟨b, 0, none⟩ = some (.int .u64 (un (dropK s k))) at hc
      generalize dropK s k = S at *
      have hbl := World.block_lt_of_cell? _ _ hc
      gi_wp2_with (refine ⟨trivial, ?_⟩; gi_at_call 84; refine HZ.out.mono ?_; rintro _ _ ⟨rfl, rfl⟩)
      refine hR.mono ?_
      rintro _ w2 (⟨rfl, hJ2, hc2, hf2⟩ | ⟨rfl, hX⟩)
      · rw [hc] at hc2
        rw [hf] at hf2
        have hbl2 := World.block_lt_of_cell? _ _ hc2
        have HJ2 := Lib.hid hJ2
        clear hy hR hJ2
        have HC3 : Hid ((w2.setCell ⟨b, 0, none⟩ (.int .u64 (un (S &&& (S - 1#64))))).cell? ⟨b, 0, none⟩ = some (ptsSt s (k + 1))) := Lib.hid (by
          rw [ptsSt, HD.out]
          exact World.cell?_setCell_same' _ _ _ (by rw [hc2]; rfl))
        gi_wp2
        go_roundw
        case rel => exact ⟨k + 1, hkl, Lib.hid (HS.out _ _ _ HJ2.out), HC3.out, by rw [World.frozen?_setCell]; exact hf2⟩
        case measure =>
          have h1 := hmu.out
          have h2 := ptsMu_at HC3.out
          omega
      · have HX := Lib.hid hX
        clear hy hR hX hc hf
        gi_wp2
        refine bodyPost_ret (results_none rfl _ _ _) rfl ?_
        exact ⟨⟨_, rfl⟩, .inr HX.out⟩
    · obtain rfl : k = (memL s).length := by omega
      have hz : ptsSt s (memL s).length = .int .u64 0 := by unfold ptsSt; rw [dropK_end, un_zero]
      rw [hz] at hc
      gi_wp2
      go_end0
      exact ⟨⟨_, rfl⟩, .inl HJ.out⟩
end Wt

/- The quiet walk of a drawn region inside a round (no deferral among its operations). -/
namespace Wt
open Go Go.RowKit Go.Maps Go.Proofs

section
variable {F : Fence} {n : Nat} {P : Program} {ops : Array Oper} {md : Region.Mode} {C : World → Prop}
/-- No operation defers a call. -/
def noDef (o : Oper) : Bool := match o.op with
  | .defer _ => false
  | _ => true
theorem noDef_ne {o : Oper} (h : noDef o = true) : ∀ c, o.op ≠ .defer c := fun c e => by
  unfold noDef at h
  rw [e] at h
  cases h
theorem wpIn_of_quietR {o : Oper} {a : Act} {K : Act → Prop} {K' : Act → World → Prop} {Q' : Exit → Act → World → Prop} {w : World} (hro : noDef o = true) (hw : C w) (h : ∀ a w', C w' → K a → K' a w')
    (ha : o.askedIn F P a C) (hh : o.quietIn F n P a C K) : o.wpIn F n P a w K' Q' := by
  obtain ⟨v, h1, h2⟩ := hh
  have h3 := h1 w hw
  unfold Oper.quietAtIn at h3
  unfold Oper.wpIn
  refine ⟨ha w hw, ?_⟩
  rw [Oper.semAt_eq _ _ _ (noDef_ne hro)]
  generalize (execOp a.eval o).run P w = r at *
  cases r with
  | ok x w' =>
    cases x <;> simp only [Oper.quietUponIn] at h3 <;> simp only [Oper.uponIn]
    case value u =>
      obtain ⟨e1, e2⟩ := h3
      rw [e1, e2]
      exact h _ _ hw h2
    case skip =>
      obtain ⟨e1, e2⟩ := h3
      rw [e1, ← e2]
      exact h _ _ hw h2
    case enter f args =>
      obtain ⟨e1, hd, hc⟩ := h3
      rw [e1]
      exact ⟨hd, hc.mono fun e w'' ⟨he, hw''⟩ => by subst he; exact h _ _ hw'' h2⟩
  | halt x w' => simp only [Oper.quietUponIn] at h3
theorem wpOpIn_of_qOpR {i : Nat} {a : Act} {K : Act → Prop} {K' : Act → World → Prop} {Q' : Exit → Act → World → Prop} {w : World} (hro : ∀ (j : Nat) (o : Oper), ops[j]? = some o → noDef o = true) (hC : C w) (h : ∀ a w', C w' → K a → K' a w')
    (hh : qOpIn F n P ops C i K a) : wpOpIn F n P ops Q' i K' a w := by
  unfold qOpIn at hh
  unfold wpOpIn
  split
  · rename_i ho; simp only [ho] at hh; exact h _ _ hC hh
  · rename_i o ho
    simp only [ho] at hh
    obtain ⟨ha, hh⟩ := hh
    split
    · rename_i hw; simp only [hw, if_true] at hh; exact wpIn_of_quietR (hro _ _ ho) hC h ha hh
    · rename_i hw; simp only [hw] at hh; exact ⟨ha w hC, h _ _ hC hh⟩
theorem wpAnyIn_of_quietR {Q : Act → Prop} {Q' : Exit → Act → World → Prop} (hro : ∀ (j : Nat) (o : Oper), ops[j]? = some o → noDef o = true) (hQ : ∀ a w, C w → Q a → Q' .normal a w) : ∀ (fuel : Nat) (listed : Array Bool) (a : Act) (w : World), C w →
    wpAnyQIn F n P md ops C Q fuel listed a → wpAnyIn F n P md ops Q' fuel listed a w
  | 0, _, _, _, hw, h => ⟨h.1, hQ _ _ hw h.2⟩
  | fuel + 1, _, _, _, hw, h => ⟨fun h0 => hQ _ _ hw (h.1 h0), fun i hi => wpOpIn_of_qOpR hro hw (fun a' w' hw' => wpAnyIn_of_quietR hro hQ fuel _ a' w' hw') (h.2 i hi)⟩
theorem wpIn_region_quietR {id : Nat} {Q : Exit → Act → World → Prop} {a : Act} {w : World} {l : List Oper} (hro : l.all noDef = true) (hm : P.follows .mixedOrders = true) (hB : Region.lexB .any l.toArray = true)
    (h : wpQuietIn F n P l.toArray (fun w' => ∃ n, w' = w.drewN n) (fun a' => ∀ w', (∃ n, w' = w.drewN n) → Q .normal a' w') l a) : (Code.region id l.toArray true).wpIn F n P Q a w := by
  simp only [Region.lexB, Bool.and_eq_true] at hB
  refine wpIn_region_any hm (wpAnyIn_of_quietR (C := fun w' => ∃ n, w' = w.drewN n) (Q := fun a' => ∀ w', (∃ n, w' = w.drewN n) → Q .normal a' w') (fun j o hj => ?_) (fun _ w' hw' h => h w' hw') _ _ _ _ ⟨1, rfl⟩ ?_)
  · rw [List.getElem?_toArray] at hj
    exact List.all_eq_true.1 hro o (List.mem_of_getElem? hj)
  · have := wpAnyQIn_lex (F := F) (n := n) (C := fun w' => ∃ n, w' = w.drewN n) (md := .any) hB.1 l 0 (Array.replicate l.toArray.size false) a (by simp) (by simpa using hB.2) h
    simpa using this
end
end Wt

/- Walk: relation.Has at euclidean relations (printed by gen_has5.py). -/
namespace Wt
open Go Go.RowKit Go.Maps Go.Proofs Fm
attribute [local go_sem] Oper.semAt_some

theorem euc_iff {r : List (BitVec 64)} (h64 : r.length ≤ 64) (hin : ∀ k, k < r.length → Sub (nth r k) (allW r.length)) :
    eucB r = true ↔ ∀ j, j < r.length → ∀ i, i < (memL (nth r j)).length → nth r j &&& ~~~ nth r (nth (memL (nth r j)) i) = 0#64 := by
  unfold eucB
  simp only [List.all_eq_true, List.mem_range, Bool.or_eq_true, Bool.not_eq_true', beq_iff_eq]
  constructor
  · intro h j hj i hi
    have h2 := mem_memL.1 (nth_mem hi)
    rcases h j hj _ (memL_ltN (hin j hj) hi) with h3 | h3
    · rw [h2.2] at h3; cases h3
    · exact h3
  · intro h j hj u hu
    cases hb : bt (nth r j) u
    · exact .inl rfl
    · right
      have hm : u ∈ memL (nth r j) := mem_memL.2 ⟨by omega, hb⟩
      obtain ⟨i, hi, e⟩ := List.getElem_of_mem hm
      have h3 := h j hj i hi
      rw [nth_eq _ _ hi, e] at h3
      exact h3
theorem keepsOthers_drewN (W : World) (n : Nat) : KeepsOthers W (W.drewN n) := ⟨Nat.le_refl _, fun _ _ h _ => h⟩
theorem has5_eq {r : List (BitVec 64)} (h : relCheck r = 0) : hasB r 5 = eucB r := by unfold hasB; rw [h]; rfl
/-- Between two rounds. -/
structure EuO (w : World) (a : Option Addr) (n c : Nat) (Ds : List Nat) (W : World) : Prop where
  e : Ext w W
  ab : Bx1 W w.heap.size (.slice a n c)
  ob : Bx1 W (w.heap.size + 1) (.bool false)
  dn : Ds.Nodup
  dl : ∀ D ∈ Ds, w.heap.size + 2 ≤ D ∧ W.heap[D]? = some (.deferred (some []))
theorem EuO.ext {w W W' : World} {a : Option Addr} {n c : Nat} {Ds : List Nat} (h : EuO w a n c Ds W) (e : Ext W W') : EuO w a n c Ds W' :=
  ⟨h.e.trans e, h.ab.ext e, h.ob.ext e, h.dn, fun D hD => ⟨(h.dl D hD).1, by rw [e.block D (Array.getElem?_eq_some_iff.1 (h.dl D hD).2).1]; exact (h.dl D hD).2⟩⟩
theorem EuO.grown {w W W' : World} {a : Option Addr} {n c B : Nat} {Ds : List Nat} {row : Option Nat} (h : EuO w a n c Ds W) (g : W.grownBy W' row) (hr : ∀ r, row = some r → B ≤ r) (hB : w.heap.size + 1 < B) (hD : ∀ D ∈ Ds, D < B) : EuO w a n c Ds W' := by
  refine ⟨Below.grown h.e g h.e.size (fun j e => by have := hr j e; omega), h.ab.keep (g.block _ h.ab.lt (fun e => by have := hr _ e.symm; omega)), h.ob.keep (g.block _ h.ob.lt (fun e => by have := hr _ e.symm; omega)), h.dn, fun D hD' => ⟨(h.dl D hD').1, ?_⟩⟩
  rw [g.block D (Array.getElem?_eq_some_iff.1 (h.dl D hD').2).1 (fun e => by have := hr _ e.symm; have := hD D hD'; omega)]
  exact (h.dl D hD').2
theorem EuO.setBox {w W : World} {a : Option Addr} {n c b : Nat} {Ds : List Nat} (h : EuO w a n c Ds W) (hb : w.heap.size + 1 < b) (hD : ∀ D ∈ Ds, D ≠ b) (v : Value) : EuO w a n c Ds (W.setCell ⟨b, 0, none⟩ v) :=
  ⟨h.e.setCell (by simp; omega) _, h.ab.keep (heap_setCell_other _ ⟨b, 0, none⟩ _ _ (by simp; omega)), h.ob.keep (heap_setCell_other _ ⟨b, 0, none⟩ _ _ (by simp; omega)), h.dn, fun D hD' => ⟨(h.dl D hD').1, by
    rw [heap_setCell_other _ ⟨b, 0, none⟩ _ _ (hD D hD')]; exact (h.dl D hD').2⟩⟩
theorem EuO.no {w W : World} {a : Option Addr} {n c : Nat} {Ds : List Nat} (h : EuO w a n c Ds W) : EuO w a n c Ds (W.setCell ⟨w.heap.size + 1, 0, none⟩ (.bool false)) :=
  ⟨h.e.setCell (by simp) _, h.ab.keep (heap_setCell_other _ ⟨w.heap.size + 1, 0, none⟩ _ _ (by simp)), ⟨World.cell?_setCell_same' _ _ _ (by rw [h.ob.c]; rfl), by rw [World.frozen?_setCell]; exact h.ob.f⟩, h.dn, fun D hD => ⟨(h.dl D hD).1, by
    rw [heap_setCell_other _ ⟨w.heap.size + 1, 0, none⟩ _ _ (by have := (h.dl D hD).1; simp; omega)]; exact (h.dl D hD).2⟩⟩
/-- Between two rounds of the inner loop. -/
def EuI (w : World) (a : Option Addr) (n c bw : Nat) (k : Int) (r : List (BitVec 64)) (S : BitVec 64) (Ds : List Nat) (j : Nat) (W : World) : Prop :=
  EuO w a n c Ds W ∧ Bx1 W bw (.int .i64 k) ∧ ∀ i, i < j → S &&& ~~~ nth r (nth (memL S) i) = 0#64
theorem EuI.own {w : World} {a : Option Addr} {n c bw B : Nat} {k : Int} {r : List (BitVec 64)} {S : BitVec 64} {Ds : List Nat} (hB : w.heap.size + 1 < B) (hb : bw < B) (hD : ∀ D ∈ Ds, D < B) : OwnFrom B (EuI w a n c bw k r S Ds) :=
  fun _ _ _ _ hs hg hr => ⟨hs.1.grown hg (fun r e => (hr r e).1) hB hD, hs.2.1.keep (hg.block _ hs.2.1.lt (fun e => by have := (hr _ e.symm).1; omega)), hs.2.2⟩
/-- How the early return leaves. -/
def EuX (w : World) (a : Option Addr) (n c : Nat) (r : List (BitVec 64)) (Ds : List Nat) (cd : Code) (W : World) : Prop := cd = .ret ∧ eucB r = false ∧ EuO w a n c Ds W
theorem EuX.own {w : World} {a : Option Addr} {n c B : Nat} {r : List (BitVec 64)} {Ds : List Nat} (hB : w.heap.size + 1 < B) (hD : ∀ D ∈ Ds, D < B) : OwnFrom B (EuX w a n c r Ds) :=
  fun _ _ _ _ hs hg hr => ⟨hs.1, hs.2.1, hs.2.2.grown hg (fun r e => (hr r e).1) hB hD⟩
set_option maxRecDepth 20000 in
set_option maxHeartbeats 8000000 in
theorem has5_any (r : List (BitVec 64)) (a : Option Addr) (c : Nat) (w : World) (hT : Tab w) (hr : RU w a r) :
    Calls Tryd.prog 14 #[.slice a r.length c, .int .i64 5] w fun e w' => e = .returned (.bool (hasB r 5)) ∧ Ext w w' := by
  have hE0 : Ext w ((w.alloc (.cells #[.slice a r.length c] 22)).alloc (.cells #[.bool false] 4)) := ((Ext.refl w).alloc _).alloc _
  have b0 := (Bx1.new w (.slice a r.length c) 22).ext ((Ext.refl _).alloc (.cells #[.bool false] 4))
  have b1 := (Bx1.new (w.alloc (.cells #[.slice a r.length c] 22)) (.bool false) 4).at (b' := w.heap.size + 1) (by simp)
  have hO : EuO w a r.length c [] ((w.alloc (.cells #[.slice a r.length c] 22)).alloc (.cells #[.bool false] 4)) := ⟨hE0, b0, b1, List.nodup_nil, fun D hD => by cases hD⟩
  have hln := hr.len
  have hck0 := relCheck_any a r c _ (hr.ext hE0)
  obtain ⟨c0, -⟩ := b0
  obtain ⟨c1, f1⟩ := b1
  have l1 := World.block_lt_of_cell? _ _ c1
  dsimp only at l1
  by_cases hck : relCheck r = 0
  · rw [has5_eq hck]
    rw [hck] at hck0
    obtain ⟨h64, hin⟩ := relCheck_ok hck
    have HIF := Lib.hid (euc_iff h64 hin)
    have HIN := Lib.hid hin
    have HT := Lib.hid hT
    have HR := Lib.hid hr
    have HCK := Lib.hid hck0
    have HOO := Lib.hid hO
    clear hck0 hck hin hT hr hE0 hO
    refine (callsIn_wide (n := 9)).1 ?_
    refine callsIn_of_wp_marks Tryd.func14 rfl trivial ?_ rfl
    simp only [Tryd.ntmps14, List.size_toArray, List.length_cons, List.length_nil, Nat.reduceAdd, Nat.reduceSub, Array.replicate_succ, Array.replicate_zero, List.push_toArray, List.append_toArray, List.nil_append, List.cons_append]
    gi_wp2_with fail
    refine ⟨trivial, ?_⟩
    gi_at_call 41
    refine (callsIn_wide.2 HCK.out).mono ?_
    rintro _ _ ⟨rfl, rfl⟩
    dsimp only
    gi_wp2_with fail
    clear HCK c0 c1 f1 l1
    generalize (w.alloc (.cells #[.slice a r.length c] 22)).alloc (.cells #[.bool false] 4) = w2 at *
    refine wpIn_loop (fun ac W => ∃ (k : Nat) (Ds : List Nat) (u7 u67 u68 u69 u70 u71 u72 u73 u85 : Value), ac = { tmps := #[.slice a r.length c, .int .i64 5, .pointer (some ⟨w.heap.size, 0, none⟩), undef, .pointer (some ⟨w.heap.size + 1, 0, none⟩), undef, undef, u7, undef, .slice a r.length c, .int .i64 (r.length : Int), .slice a r.length c, .int .i64 0, .bool false, .int .i64 5, .bool false, .bool false, undef, undef, undef, .bool false, .bool false, undef, undef, undef, undef, undef, undef, undef, undef, undef, undef, undef, undef, undef, undef, .bool false, .bool false, undef, undef, undef, undef, .bool false, .bool false, undef, undef, undef, undef, undef, undef, undef, undef, undef, undef, undef, undef, undef, undef, undef, undef, undef, undef, .bool true, .bool true, .slice a r.length c, .int .i64 (r.length : Int), .int .i64 (k : Int), u67, u68, u69, u70, u71, u72, u73, undef, undef, undef, undef, undef, undef, undef, undef, undef, undef, undef, u85], defers := Ds.map markD } ∧ k ≤ r.length ∧ Hid (EuO w a r.length c Ds W) ∧ Hid (∀ j, j < k → ∀ i, i < (memL (nth r j)).length → nth r j &&& ~~~ nth r (nth (memL (nth r j)) i) = 0#64)) (fun ac _ => r.length - (RowKit.intOf (ac.tmps.getD 66 undef)).toNat) ?start ?round
    case start => exact ⟨0, [], _, _, _, _, _, _, _, _, _, rfl, Nat.zero_le _, HOO, Lib.hid fun _ h => absurd h (Nat.not_lt_zero _)⟩
    case round =>
      clear HOO
      rintro _ W ⟨k, Ds, u7, u67, u68, u69, u70, u71, u72, u73, u85, rfl, hk, HO, HNO⟩
      obtain ⟨c0, -⟩ := HO.out.ab
      have l0 := HO.out.ab.lt
      by_cases hkl : k < r.length
      · obtain ⟨b1, o1, ha, hb1, hc1⟩ := (HR.out.ext HO.out.e).get hkl
        subst ha
        gi_wp2_with (refine ⟨trivial, ?_⟩; gi_at_call 46; refine (callsIn_wide.2 (points_any (nth r k) _)).mono ?_; rintro _ _ ⟨rfl, rfl⟩)
        have hsW : W.heap.size + 1 + 1 ≤ ((W.alloc (.cells #[.int .i64 (k : Int)] 3)).alloc (.cells #[.int .u64 (un (nth r k))] 40)).heap.size := by simp
        have hEW : Ext W ((W.alloc (.cells #[.int .i64 (k : Int)] 3)).alloc (.cells #[.int .u64 (un (nth r k))] 40)) := ((Ext.refl W).alloc _).alloc _
        have bw := (Bx1.new W (.int .i64 (k : Int)) 3).ext ((Ext.refl _).alloc (.cells #[.int .u64 (un (nth r k))] 40))
        have bi := (Bx1.new (W.alloc (.cells #[.int .i64 (k : Int)] 3)) (.int .u64 (un (nth r k))) 40).at (b' := W.heap.size + 1) (by simp)
        have hI0 : EuI w (some ⟨b1, o1, none⟩) r.length c W.heap.size (k : Int) r (nth r k) Ds 0 ((W.alloc (.cells #[.int .i64 (k : Int)] 3)).alloc (.cells #[.int .u64 (un (nth r k))] 40)) := ⟨HO.out.ext hEW, bw, fun _ h => absurd h (Nat.not_lt_zero _)⟩
        have hgW := HO.out.ob.lt
        have HDl : Hid (∀ D ∈ Ds, D < W.heap.size) := Lib.hid fun D hD => (Array.getElem?_eq_some_iff.1 (HO.out.dl D hD).2).1
        have hc3 : ((W.alloc (.cells #[.int .i64 (k : Int)] 3)).alloc (.cells #[.int .u64 (un (nth r k))] 40)).cell? ⟨W.heap.size + 1, 0, none⟩ = some (ptsSt (nth r k) 0) := bi.c
        have hf3 := bi.f
        have HDN := Lib.hid HO.out.dn
        clear bw bi hEW c0 l0 hb1 hc1
        generalize (W.alloc (.cells #[.int .i64 (k : Int)] 3)).alloc (.cells #[.int .u64 (un (nth r k))] 40) = W3 at *
        refine wpIn_rangeFunc_ptsS rfl (by decide) (gf := 83) (b := W.heap.size + 1) rfl trivial (enters_of Tryd.func83 (by kernel_rfl) rfl) (points1_ptsS _ (by decide) _ (nth r k)) rfl hc3 hf3
          (EuI w (some ⟨b1, o1, none⟩) r.length c W.heap.size (k : Int) r (nth r k) Ds) (EuX w (some ⟨b1, o1, none⟩) r.length c r Ds) (EuI.own (by omega) (by omega) (fun D hD => by have := HDl.out D hD; omega)) (EuX.own (by omega) (fun D hD => by have := HDl.out D hD; omega)) (fun j A v h => ⟨h.1.setBox (by omega) (fun D hD => by have := HDl.out D hD; omega) v, h.2.1.keep (heap_setCell_other _ ⟨W.heap.size + 1, 0, none⟩ _ _ (by simp)), h.2.2⟩) (fun j A h => ⟨h.1.ext (Ext.refl _).drew, h.2.1.ext (Ext.refl _).drew, h.2.2⟩) (fun j A h => HT.out.ext h.1.e) hI0
          (fun x => { tmps := #[.slice (some ⟨b1, o1, none⟩) r.length c, .int .i64 5, .pointer (some ⟨w.heap.size, 0, none⟩), undef, .pointer (some ⟨w.heap.size + 1, 0, none⟩), undef, undef, .pointer (some ⟨W.heap.size, 0, none⟩), .int .i64 ((x : Nat) : Int), .slice (some ⟨b1, o1, none⟩) r.length c, .int .i64 (r.length : Int), .slice (some ⟨b1, o1, none⟩) r.length c, .int .i64 0, .bool false, .int .i64 5, .bool false, .bool false, undef, undef, undef, .bool false, .bool false, undef, undef, undef, undef, undef, undef, undef, undef, undef, undef, undef, undef, undef, undef, .bool false, .bool false, undef, undef, undef, undef, .bool false, .bool false, undef, undef, undef, undef, undef, undef, undef, undef, undef, undef, undef, undef, undef, undef, undef, undef, undef, undef, .bool true, .bool true, .slice (some ⟨b1, o1, none⟩) r.length c, .int .i64 (r.length : Int), .int .i64 (k : Int), .bool true, .int .i64 (k : Int), .slice (some ⟨b1, o1, none⟩) r.length c, .int .i64 (k : Int), .pointer (some ⟨b1, o1 + k, none⟩), .int .u64 (un (nth r k)), .func (.func 83) #[] #[.pointer (some ⟨W.heap.size + 1, 0, none⟩)], .int .i64 ((x : Nat) : Int), undef, undef, undef, undef, undef, undef, undef, undef, undef, undef, u85], defers := [] }) ?assign ?body ?done ?stop
        case assign =>
          intro l j A K hK
          gi_wp2
          exact hK
        case body =>
          intro l j A hj hI
          have HII := Lib.hid hI
          have hv := memL_ltN (HIN.out k hkl) hj
          have hac := hI.1.ab.c
          have hal := hI.1.ab.lt
          have hoc := hI.1.ob.c
          have hof := hI.1.ob.f
          have hol := hI.1.ob.lt
          have hwc := hI.2.1.c
          have hwl := hI.2.1.lt
          obtain ⟨b2, o2, e2, hb2, hc2⟩ := (HR.out.ext hI.1.e).get hkl
          simp only [Option.some.injEq, Addr.mk.injEq] at e2
          obtain ⟨rfl, rfl, -⟩ := e2
          obtain ⟨b3, o3, e3, hb3, hc3⟩ := (HR.out.ext hI.1.e).get hv
          simp only [Option.some.injEq, Addr.mk.injEq] at e3
          obtain ⟨rfl, rfl, -⟩ := e3
          clear hI
          have hmx : Tryd.prog.follows .mixedOrders = true := by kernel_rfl
          cases hz : (un (nth r k &&& ~~~ nth r (nth (memL (nth r k)) j)) != 0)
          · have hnz : nth r k &&& ~~~ nth r (nth (memL (nth r k)) j) = 0#64 := by
              rw [← un_zero] at hz
              exact un_inj.1 (by simpa using hz)
            have HNZ := Lib.hid hnz
            clear hnz
            generalize hX : nth r (nth (memL (nth r k)) j) = X at *
            gi_wp2
            refine wpIn_region_quietR (by rfl) (by assumption) (by kernel_rfl) ?_
            repeat (gi_big_quiet_step (fail))
            refine wpQuietIn_nil ?_
            rintro _ ⟨nq, rfl⟩
            all_goals gi_wp2
            all_goals exact ⟨keepsOthers_drewN _ _, ⟨HII.out.1.ext ((Ext.refl _).drewN _), HII.out.2.1.ext ((Ext.refl _).drewN _), lt_step HII.out.2.2 (by rw [hX]; exact HNZ.out)⟩, by simp, by simp⟩
          · have hb : eucB r = false := by
              cases hq : eucB r
              · rfl
              · have h := HIF.out.1 hq k hkl j hj
                rw [h, un_zero] at hz
                cases hz
            have HB := Lib.hid hb
            clear hb
            generalize hX : nth r (nth (memL (nth r k)) j) = X at *
            gi_wp2
            refine wpIn_region_quietR (by rfl) (by assumption) (by kernel_rfl) ?_
            repeat (gi_big_quiet_step (fail))
            refine wpQuietIn_nil ?_
            rintro _ ⟨nq, rfl⟩
            all_goals gi_wp2
            all_goals exact ⟨(keepsOthers_drewN _ _).trans (KeepsOthers.setCell _ _ _), rfl, HB.out, (HII.out.1.ext ((Ext.refl _).drewN _)).no⟩
        case done =>
          intro D W4 hD hI hK
          have hO4 : EuO w (some ⟨b1, o1, none⟩) r.length c (D :: Ds) W4 := ⟨hI.1.e, hI.1.ab, hI.1.ob, List.nodup_cons.2 ⟨fun hm => by have := HDl.out D hm; omega, hI.1.dn⟩, fun E hE => by
            rcases List.mem_cons.1 hE with rfl | hE
            · exact ⟨by omega, hK⟩
            · exact hI.1.dl E hE⟩
          have HO4 := Lib.hid hO4
          have HST := Lib.hid hI.2.2
          clear hI hK hO4
          gi_wp2
          refine ⟨⟨k + 1, D :: Ds, _, _, _, _, _, _, _, _, _, rfl, hkl, HO4, Lib.hid (lt_step HNO.out HST.out)⟩, ?_⟩
          simp [RowKit.intOf]
          omega
        case stop =>
          intro D cd W4 hD hX hK
          obtain ⟨rfl, hb, hO4⟩ := hX
          have hnd : (D :: Ds).Nodup := List.nodup_cons.2 ⟨fun hm => by have := HDl.out D hm; omega, hO4.dn⟩
          have hdl : ∀ E ∈ D :: Ds, w.heap.size + 2 ≤ E ∧ W4.heap[E]? = some (.deferred (some [])) := fun E hE => by
            rcases List.mem_cons.1 hE with rfl | hE
            · exact ⟨by omega, hK⟩
            · exact hO4.dl E hE
          have HO4 := Lib.hid hO4
          have HDL := Lib.hid hdl
          have HB := Lib.hid hb
          clear hK hO4 hdl hb
          gi_wp2
          refine leaves_marks (D :: Ds) W4 hnd (fun E hE => (HDL.out E hE).2) fun W' hs => ?_
          have hc' : W'.cell? ⟨w.heap.size + 1, 0, none⟩ = some (.bool false) := by
            rw [World.cell?_of_block (w := W4) (a := ⟨w.heap.size + 1, 0, none⟩) (hs.block _ fun hm => by have := (HDL.out _ hm).1; dsimp only at this; omega)]
            exact HO4.out.ob.c
          refine ⟨.bool false, ?_, ?_⟩
          · rw [results_cell_one rfl]
            go_simp
          · exact ⟨by rw [HB.out], hs.ext HO4.out.e fun E hE => by have := (HDL.out E hE).1; omega⟩
      · obtain rfl : k = r.length := by omega
        have hb : eucB r = true := HIF.out.2 HNO.out
        have HB := Lib.hid hb
        obtain ⟨o0, of⟩ := HO.out.ob
        have ol := HO.out.ob.lt
        have HDL : Hid (∀ E ∈ Ds, w.heap.size + 2 ≤ E ∧ (W.setCell ⟨w.heap.size + 1, 0, none⟩ (.bool true)).heap[E]? = some (.deferred (some []))) := Lib.hid fun E hE => ⟨(HO.out.dl E hE).1, by
          rw [heap_setCell_other _ ⟨w.heap.size + 1, 0, none⟩ _ _ (by have := (HO.out.dl E hE).1; simp; omega)]; exact (HO.out.dl E hE).2⟩
        have HC : Hid ((W.setCell ⟨w.heap.size + 1, 0, none⟩ (.bool true)).cell? ⟨w.heap.size + 1, 0, none⟩ = some (.bool true)) := Lib.hid (World.cell?_setCell_same' _ _ _ (by rw [o0]; rfl))
        clear hb
        gi_wp2
        refine leaves_marks Ds _ HO.out.dn (fun E hE => (HDL.out E hE).2) fun W' hs => ?_
        have hc' : W'.cell? ⟨w.heap.size + 1, 0, none⟩ = some (.bool true) := by
          rw [World.cell?_of_block (a := ⟨w.heap.size + 1, 0, none⟩) (hs.block _ fun hm => by have := (HDL.out _ hm).1; dsimp only at this; omega)]
          exact HC.out
        refine ⟨.bool true, ?_, ?_⟩
        · rw [results_cell_one rfl]
          go_simp
        · exact ⟨by rw [HB.out], hs.ext (HO.out.e.setCell (by simp) _) fun E hE => by have := (HDL.out E hE).1; omega⟩
  · rw [has_bad hck]
    have hq : (relCheck r != 0) = true := by simpa using hck
    have HE := Lib.hid hE0
    have HCK := Lib.hid hck0
    clear hck0 hck hE0 hO hT hr
    generalize relCheck r = er at *
    go_enter Tryd.func14, Tryd.ntmps14
    go_wp2_with fail
    generalize ((w.alloc (.cells #[.slice a r.length c] 22)).alloc (.cells #[.bool false] 4)) = w2 at *
    refine HCK.out.mono ?_
    rintro _ _ ⟨rfl, rfl⟩
    dsimp only
    go_wp2_with fail
    refine bodyPost_ret (v := .bool false) ?_ rfl ?_
    · rw [results_cell_one rfl]
      go_simp
    · exact ⟨rfl, HE.out.setCell (by simp) _⟩
end Wt

/- Walks: slices.IndexFunc and ContainsFunc over rows, for a function of any captures. -/
namespace Wt
open Go Go.RowKit Go.Maps Go.Proofs Fm

set_option maxHeartbeats 1000000 in
theorem indexFunc_g (F : Nat) (caps : List Value) (p : List (BitVec 64) → Bool) (a : Option Addr) (l : List (List (BitVec 64))) (cap : Nat) (w : World) (hr : RR w a l)
    (hF : ∀ args W, (callFunc F args).run Tryd.prog W = .ok (.enter F args) W)
    (hp : ∀ W a s c', Ext w W → RU W a s → Calls Tryd.prog F (.slice a s.length c' :: caps).toArray W fun e w' => e = .returned (.bool (p s)) ∧ Ext W w') :
    Calls Tryd.prog 80 #[.slice a l.length cap, .func (.func F) #[] caps.toArray] w fun e w' => (∃ i : Int, e = .returned (.int .i64 i) ∧ decide (0 ≤ i) = l.any p) ∧ Ext w w' := by
  have hl := hr.len
  have Hp := Lib.hid hp
  clear hp
  go_enter Tryd.func80, Tryd.ntmps80
  go_wp2
  go_loopw [8] (fun i wr => ∃ k : Nat, k ≤ l.length ∧ i = .int .i64 k ∧ Ext w wr ∧ Hid (∀ j, j < k → p (nth l j) = false)) (fun i _ => l.length - (RowKit.intOf i).toNat)
  case atStart => exact ⟨0, Nat.zero_le _, rfl, Ext.refl _, fun _ h => absurd h (Nat.not_lt_zero _)⟩
  case round =>
    obtain ⟨k, hk, rfl, hE, hno⟩ := hrel
    by_cases hlt : k < l.length
    · obtain ⟨b, off, a', c', rfl, hc, hu⟩ := (hr.ext hE).at_ k hlt
      go_wp2_with fail
      refine (Hp.out _ _ _ _ hE hu).mono ?_
      rintro e w1 ⟨rfl, hE1⟩
      cases hb : p (nth l k)
      all_goals have Hb := Lib.hid hb; clear hb
      · go_wp2
        go_roundw
        case rel => exact ⟨k + 1, hlt, by go_num, hE.trans hE1, lt_step hno Hb.out⟩
        case measure => simp [RowKit.intOf]; omega
      · go_wp2
        go_ret
        exact ⟨⟨k, rfl, by rw [any_yes hlt Hb.out]; simp⟩, hE.trans hE1⟩
    · go_wp2
      go_ret
      exact ⟨⟨-1, rfl, by rw [any_no (fun j hj => hno j (by omega))]; rfl⟩, hE⟩
set_option maxHeartbeats 1000000 in
theorem containsFunc_g (F : Nat) (caps : List Value) (p : List (BitVec 64) → Bool) (a : Option Addr) (l : List (List (BitVec 64))) (cap : Nat) (w : World) (hr : RR w a l)
    (hF : ∀ args W, (callFunc F args).run Tryd.prog W = .ok (.enter F args) W)
    (hp : ∀ W a s c', Ext w W → RU W a s → Calls Tryd.prog F (.slice a s.length c' :: caps).toArray W fun e w' => e = .returned (.bool (p s)) ∧ Ext W w') :
    Calls Tryd.prog 38 #[.slice a l.length cap, .func (.func F) #[] caps.toArray] w fun e w' => e = .returned (.bool (l.any p)) ∧ Ext w w' := by
  have Hi := Lib.hid (indexFunc_g F caps p a l cap w hr hF hp)
  clear hF hp
  go_enter Tryd.func38, Tryd.ntmps38
  go_wp2_with (go_at_call 80; refine (Hi.out).mono ?_; rintro e w1 ⟨⟨i, rfl, hi⟩, hE⟩; have HI := Lib.hid hi; clear hi)
  go_ret
  exact ⟨by rw [← HI.out]; simp, hE⟩
end Wt
