/- Plain laws of observations: formulas about the first one of two models side by side. -/
import Derived.Test.YtflnfcmbalhpnaaGreatDoorM4Be
import Derived.Test.YtflnfcmbalhpnaaGreatDoorM4An
import Derived.Test.YtflnfcmbalhpnaaGreatDoorM4Ao
import Derived.Test.YtflnfcmbalhpnaaGreatDoorM4Bd
import Derived.Test.YtflnfcmbalhpnaaGreatDoorM4Bc
namespace Wt
open Go Go.RowKit Go.Proofs Fm

/-- Worlds of one relation lie over worlds of another one, and so do its arrows, which lift. -/
structure Bmo (r r' : List (BitVec 64)) (N : Nat) (ws : List Nat) : Prop where
  len : r.length = N
  len' : r'.length = ws.length
  inN : ∀ v, v < N → Sub (nth r v) (allW N)
  inW : ∀ v, v < ws.length → Sub (nth r' v) (allW ws.length)
  fwd : ∀ i j, i < ws.length → j < ws.length → bt (nth r' i) j = true → bt (nth r (nth ws i)) (nth ws j) = true
  bck : ∀ i u, i < ws.length → bt (nth r (nth ws i)) u = true → ∃ j, j < ws.length ∧ nth ws j = u ∧ bt (nth r' i) j = true
section
variable {N : Nat} {ws : List Nat} (h64 : N ≤ 64) (hl : ws.length ≤ 64) (hlt : ∀ i, i < ws.length → nth ws i < N)
include h64 hl hlt
theorem box_bmo {r r' : List (BitVec 64)} (hA : Bmo r r' N ws) {x' x : BitVec 64} (h : Agr ws x' x) : Agr ws (relBox r' x') (relBox r x) := fun i hi => by
  have hi64 : i < 64 := by omega
  have hwi := hlt i hi
  rw [bt_relBox _ _ _ hi64, bt_relBox _ _ _ (by omega), hA.len, hA.len', rel_ok hA.len h64 hA.inN, rel_ok hA.len' hl hA.inW]
  have e : (nth r' i &&& ~~~ x' == 0#64) = (nth r (nth ws i) &&& ~~~ x == 0#64) := by
    rw [Bool.eq_iff_iff, sub_bool, sub_bool]
    constructor
    · intro h2 u hu hb
      obtain ⟨j, hj, rfl, hb'⟩ := hA.bck i u hi hb
      have h3 := h2 j (by omega) hb'
      rw [h j hj] at h3; exact h3
    · intro h2 j hj hb
      have hjw : j < ws.length := by have := hA.inW i hi j hj hb; rw [bt_allW] at this; simp at this; exact this.2
      rw [h j hjw]
      exact h2 _ (by have := hlt j hjw; omega) (hA.fwd i j hi hjw hb)
  rw [e]; simp [hi, hwi]
theorem cmnI_bmo {r r' : List (BitVec 64)} (hA : Bmo r r' N ws) {c' c s' s : BitVec 64} (hc : Agr ws c' c) (hs : Agr ws s' s) : ∀ k, Agr ws (cmnI r' ws.length c' s' k) (cmnI r N c s k)
  | 0 => all_agr h64 hl hlt
  | k + 1 => box_bmo h64 hl hlt hA (or_agr (not_agr h64 hl hlt hc) (and_agr hs (cmnI_bmo hA hc hs k)))
theorem cmn_bmo (hN : N ≤ ws.length) {r r' : List (BitVec 64)} (hA : Bmo r r' N ws) {c' c s' s : BitVec 64} (hc : Agr ws c' c) (hs : Agr ws s' s) : Agr ws (cmn r' ws.length c' s') (cmn r N c s) := by
  have hfix := cmnI_fix r N (by rw [hA.len]; exact Nat.le_refl _) c s
  have hk := cmnI_const r N c s N hfix (ws.length - N)
  rw [show N + (ws.length - N) = ws.length by omega] at hk
  unfold cmn
  rw [← hk]
  exact cmnI_bmo h64 hl hlt hA hc hs ws.length
end
/-- A model that lies over another one. -/
structure Bmod (A M : Mo) (N : Nat) (ws : List Nat) : Prop where
  okA : MoOk A N
  okM : MoOk M ws.length
  lt : ∀ i, i < ws.length → nth ws i < N
  le : N ≤ ws.length
  rel : M.rel.length = A.rel.length
  val : A.val.length ≤ M.val.length
  fact : ∀ k, k < A.val.length → Agr ws (nth M.val k) (nth A.val k)
  agent : ∀ q, q < A.rel.length → Bmo (nth A.rel q) (nth M.rel q) N ws
  group : ∀ G : Nat, 1 ≤ G → (G : Int) < p2 A.rel.length → Bmo (groupOf A G) (groupOf M G) N ws
  meet : ∀ G : Nat, 1 ≤ G → (G : Int) < p2 A.rel.length → Bmo (meetOf A G) (meetOf M G) N ws
/-- If the one answers, the other one does, and the answers agree. -/
def AgrI (ws : List Nat) (p' p : BitVec 64 × Bool) : Prop := p.2 = true → p'.2 = true ∧ Agr ws p'.1 p.1
theorem agrI_ite {ws : List Nat} {c : Prop} [Decidable c] {a' a b' b : BitVec 64 × Bool} (h1 : c → AgrI ws a' a) (h2 : ¬ c → AgrI ws b' b) : AgrI ws (if c then a' else b') (if c then a else b) := by
  by_cases hc : c
  · rw [if_pos hc, if_pos hc]; exact h1 hc
  · rw [if_neg hc, if_neg hc]; exact h2 hc
theorem agrI_no {ws : List Nat} {p' : BitVec 64 × Bool} {x : BitVec 64} : AgrI ws p' (x, false) := fun h => by cases h
theorem agrI_yes {ws : List Nat} {x' x : BitVec 64} (h : Agr ws x' x) : AgrI ws (x', true) (x, true) := fun _ => ⟨rfl, h⟩
theorem AgrP.imp {ws : List Nat} {p' p : BitVec 64 × Bool} (h : AgrP ws p' p) : AgrI ws p' p := fun e => ⟨by rw [h.1]; exact e, h.2⟩
section
variable {A M : Mo} {N : Nat} {ws : List Nat} (h : Bmod A M N ws)
include h
theorem dia_bmo {q : Nat} (hq : q < A.rel.length) {x' x : BitVec 64} (hx : Agr ws x' x) : Agr ws (relDia (nth M.rel q) x') (relDia (nth A.rel q) x) := by
  rw [← dual_law h.okA hq, ← dual_law h.okM (by rw [h.rel]; exact hq)]
  exact not_agr h.okA.most h.okM.most h.lt (box_bmo h.okA.most h.okM.most h.lt (h.agent q hq) (not_agr h.okA.most h.okM.most h.lt hx))
theorem valN_bmo (o i g : Int) (h0 : o = 3 → 0 ≤ i) {x' x y' y : BitVec 64} (hx : Agr ws x' x) (hy : Agr ws y' y) : AgrI ws (valN M o i g x' y') (valN A o i g x y) := by
  have hA : M.worlds.toNat = ws.length := by rw [h.okM.worlds]; exact Int.toNat_natCast _
  have hM : A.worlds.toNat = N := by rw [h.okA.worlds]; exact Int.toNat_natCast N
  have hr := h.rel
  have h64 := h.okA.most
  have hl := h.okM.most
  have all := all_agr h64 hl h.lt
  have nt : ∀ {a' a : BitVec 64}, Agr ws a' a → Agr ws (allW ws.length &&& ~~~ a') (allW N &&& ~~~ a) := fun ha => not_agr h64 hl h.lt ha
  have bx : ∀ {r r' : List (BitVec 64)}, Bmo r r' N ws → ∀ {a' a : BitVec 64}, Agr ws a' a → Agr ws (relBox r' a') (relBox r a) := by
    intro r r' hr a' a ha
    exact box_bmo h64 hl h.lt hr ha
  have grp : ∀ {j : BitVec 64 → BitVec 64 → BitVec 64}, (∀ G : Nat, 1 ≤ G → (G : Int) < p2 A.rel.length → Bmo (gather j A G) (gather j M G) N ws) → ¬ p2 A.rel.length ≤ g → Agr ws (relBox (gather j M g) x') (relBox (gather j A g) x) := by
    intro j hj hg
    by_cases hg1 : g < 1
    · rw [gather_no j hg1, gather_no j hg1, relBox_nil, relBox_nil]; exact zero_agr ws
    · obtain ⟨G, rfl⟩ := Int.eq_ofNat_of_zero_le (show 0 ≤ g by omega)
      exact bx (hj G (by omega) (by omega)) hx
  unfold valN
  rw [hA, hM, hr]
  refine agrI_ite (fun _ => agrI_yes all) fun _ => agrI_ite (fun _ => (zero_agrP ws true).imp) fun _ => agrI_ite (fun e3 => ?_) fun _ => agrI_ite (fun _ => agrI_yes (nt hx)) fun _ => agrI_ite (fun _ => agrI_yes (and_agr hx hy)) fun _ => agrI_ite (fun _ => agrI_yes (or_agr hx hy)) fun _ => agrI_ite (fun _ => agrI_yes (or_agr (nt hx) hy)) fun _ => agrI_ite (fun _ => agrI_yes (nt (xor_agr hx hy))) fun _ => agrI_ite (fun _ => agrI_ite (fun _ => agrI_no) fun hi => agrI_yes ?_) fun _ => agrI_ite (fun _ => agrI_ite (fun _ => agrI_no) fun hi => agrI_yes ?_) fun _ => agrI_ite (fun _ => agrI_ite (fun _ => agrI_no) fun hg => agrI_yes (grp h.group hg)) fun _ => agrI_ite (fun _ => agrI_ite (fun _ => agrI_no) fun hg => agrI_yes (grp h.meet hg)) fun _ => agrI_ite (fun _ => agrI_ite (fun _ => agrI_no) fun hg => agrI_yes ?_) fun _ => agrI_no
  · have hi0 := h0 e3
    by_cases hi : (A.val.length : Int) ≤ i
    · rw [if_pos hi]; exact agrI_no
    · have := h.val
      rw [if_neg hi, if_neg (by omega)]
      exact agrI_yes (h.fact i.toNat (by omega))
  · by_cases hk : i.toNat < A.rel.length
    · exact bx (h.agent _ hk) hx
    · rw [nth_out (by rw [hr]; omega), nth_out (by omega), show (default : List (BitVec 64)) = [] from rfl, relBox_nil, relBox_nil]; exact zero_agr ws
  · by_cases hk : i.toNat < A.rel.length
    · exact dia_bmo h hk hx
    · rw [nth_out (by rw [hr]; omega), nth_out (by omega), show (default : List (BitVec 64)) = [] from rfl, relDia_nil, relDia_nil]; exact zero_agr ws
  · by_cases hg1 : g < 1
    · have e1 : groupOf M g = [] := gather_no _ hg1
      have e2 : groupOf A g = [] := gather_no _ hg1
      rw [e1, e2, cmn_nil h.okM.one, cmn_nil h.okA.one]; exact zero_agr ws
    · obtain ⟨G, rfl⟩ := Int.eq_ofNat_of_zero_le (show 0 ≤ g by omega)
      exact cmn_bmo h64 hl h.lt h.le (h.group G (by omega) (by omega)) hx hy
end
theorem wide_fact {o i e g : Int} (h : wide (useOf o).1 ⟨o, i, e, g, 0, 0⟩ = false) (h3 : o = 3) : 0 ≤ i := by
  subst h3
  have e1 : (useOf 3).1 = ⟨false, false, true, false, false, false, 0⟩ := by decide
  rw [e1] at h
  simp [wide, outs] at h
  exact h.1
/-- The sets of a tree agree. -/
theorem sem_bmo {A M : Mo} {N : Nat} {ws : List Nat} (h : Bmod A M N ws) : ∀ t, fok t → AgrI ws (semT M t) (semT A t)
  | .leaf o i e g => fun hk => valN_bmo h o i g (wide_fact hk.2.2.2) (zero_agr ws) (zero_agr ws)
  | .un o i e g x => fun hk e2 => by
    have ih := sem_bmo h x hk.2.2.2.2.2
    simp only [semT] at e2 ⊢
    by_cases hx : (semT A x).2 = true
    · obtain ⟨i1, i2⟩ := ih hx
      rw [if_pos hx] at e2 ⊢
      rw [if_pos i1]
      exact valN_bmo h o i g (wide_fact hk.2.2.2.2.1) i2 (zero_agr ws) e2
    · rw [if_neg hx] at e2; cases e2
  | .bin o i e g x y => fun hk e2 => by
    have ih := sem_bmo h x hk.2.2.2.2.1
    have ih2 := sem_bmo h y hk.2.2.2.2.2
    simp only [semT] at e2 ⊢
    by_cases hx : ((semT A x).2 && (semT A y).2) = true
    · have hx' := hx
      rw [Bool.and_eq_true] at hx'
      obtain ⟨i1, i2⟩ := ih hx'.1
      obtain ⟨j1, j2⟩ := ih2 hx'.2
      rw [if_pos hx] at e2 ⊢
      rw [if_pos (by rw [i1, j1]; rfl)]
      exact valN_bmo h o i g (wide_fact hk.2.2.2.1) i2 j2 e2
    · rw [if_neg hx] at e2; cases e2
theorem nth_append_left {α : Type} [Inhabited α] {l m : List α} {k : Nat} (h : k < l.length) : nth (l ++ m) k = nth l k := by
  rw [nth_eq _ _ h, nth_eq _ _ (by rw [List.length_append]; omega), List.getElem_append_left h]
/-! The product. -/
theorem prErr_ok {A B : Mo} (h : prErr A B = 0) : ∃ N m, MoOk A N ∧ MoOk B m ∧ A.rel.length = B.rel.length ∧ N * m ≤ 64 ∧ A.val.length + B.val.length ≤ 8 := by
  unfold prErr at h
  by_cases h1 : moCheck A = 0
  · rw [if_neg (by simp [h1])] at h
    by_cases h2 : moCheck B = 0
    · rw [if_neg (by simp [h2])] at h
      by_cases h3 : A.rel.length = B.rel.length
      · rw [if_neg (by simp [h3])] at h
        by_cases h4 : 64 < A.worlds * B.worlds ∨ 8 < A.val.length + B.val.length
        · rw [if_pos h4] at h; omega
        · obtain ⟨N, okA⟩ := moCheck_ok h1
          obtain ⟨m, okB⟩ := moCheck_ok h2
          refine ⟨N, m, okA, okB, h3, ?_, by omega⟩
          have e : A.worlds * B.worlds = ((N * m : Nat) : Int) := by rw [okA.worlds, okB.worlds]; simp
          omega
      · rw [if_pos h3] at h; omega
    · rw [if_pos h2] at h; exact absurd h h2
  · rw [if_pos h1] at h; exact absurd h h1
theorem pairL_len (n m : Nat) : (pairL n m).length = n * m := by simp [pairL]
theorem pairL_nth {n m i : Nat} (h : i < n * m) : nth (pairL n m) i = (i / m, i % m) := by
  unfold pairL; rw [nth_mapN _ _ (by simpa using h), nth_range h]
theorem bt_both {l : List (Nat × Nat)} (s t : BitVec 64) {j : Nat} (h : j < 64) : bt (bothS l s t) j = (decide (j < l.length) && (bt s (nth l j).1 && bt t (nth l j).2)) := bt_setTo _ h _
section
variable {A B : Mo} {N m : Nat} (okA : MoOk A N) (okB : MoOk B m) (h : prErr A B = 0)
include okA okB h
theorem prL_eq : prL A B = pairL N m := by
  have e : prL A B = pairL A.worlds.toNat B.worlds.toNat := if_pos h
  rw [e, okA.worlds, okB.worlds]; simp
theorem prM_eq : prM A B = ⟨((N * m : Nat) : Int), A.val.map (fun s => bothS (pairL N m) s (allW m)) ++ B.val.map (fun t => bothS (pairL N m) (allW N) t), (List.range A.rel.length).map fun i => prR (pairL N m) (nth A.rel i) (nth B.rel i)⟩ := by
  have e : prM A B = ⟨((prL A B).length : Int), A.val.map (fun s => bothS (prL A B) s (allW B.worlds.toNat)) ++ B.val.map (fun t => bothS (prL A B) (allW A.worlds.toNat) t), (List.range A.rel.length).map fun i => prR (prL A B) (nth A.rel i) (nth B.rel i)⟩ := if_pos h
  have ea : A.worlds.toNat = N := by rw [okA.worlds]; exact Int.toNat_natCast _
  have eb : B.worlds.toNat = m := by rw [okB.worlds]; exact Int.toNat_natCast _
  rw [e, prL_eq okA okB h, pairL_len, ea, eb]
theorem pr_size : N * m ≤ 64 ∧ A.rel.length = B.rel.length ∧ A.val.length + B.val.length ≤ 8 := by
  obtain ⟨N', m', a, b, c, d, e⟩ := prErr_ok h
  have e1 : (N : Int) = N' := by rw [← okA.worlds, ← a.worlds]
  have e2 : (m : Int) = m' := by rw [← okB.worlds, ← b.worlds]
  obtain rfl : N = N' := by omega
  obtain rfl : m = m' := by omega
  exact ⟨d, c, e⟩
omit okA okB h in
theorem both_in (s t : BitVec 64) : Sub (bothS (pairL N m) s t) (allW (N * m)) := by
  have := setTo_in (fun i => bt s (nth (pairL N m) i).1 && bt t (nth (pairL N m) i).2) (pairL N m).length
  rw [pairL_len] at this
  unfold bothS; rw [pairL_len]; exact this
theorem pr_ok : MoOk (prM A B) (N * m) := by
  obtain ⟨s1, s2, s3⟩ := pr_size okA okB h
  rw [prM_eq okA okB h]
  refine ⟨rfl, Nat.mul_pos okA.one okB.one, s1, by simpa using okA.rel, by simpa using s3, ?_, ?_, ?_⟩
  · intro r hr
    obtain ⟨a, ha, rfl⟩ := List.mem_map.1 hr
    simp [prR, pairL_len]
  · intro s hs
    rcases List.mem_append.1 hs with hs | hs
    · obtain ⟨a, ha, rfl⟩ := List.mem_map.1 hs
      exact andNot_zero.2 (both_in _ _)
    · obtain ⟨a, ha, rfl⟩ := List.mem_map.1 hs
      exact andNot_zero.2 (both_in _ _)
  · intro r hr s hs
    obtain ⟨a, ha, rfl⟩ := List.mem_map.1 hr
    obtain ⟨p, hp, rfl⟩ := List.mem_map.1 hs
    exact andNot_zero.2 (both_in _ _)
theorem pr_cell {q i j : Nat} (hq : q < A.rel.length) (hi : i < N * m) (hj : j < N * m) : bt (nth (nth (prM A B).rel q) i) j = (bt (nth (nth A.rel q) (i / m)) (j / m) && bt (nth (nth B.rel q) (i % m)) (j % m)) := by
  obtain ⟨s1, s2, s3⟩ := pr_size okA okB h
  rw [prM_eq okA okB h]
  show bt (nth (nth ((List.range A.rel.length).map _) q) i) j = _
  rw [nth_mapN _ _ (by simpa using hq), nth_range hq]
  unfold prR
  rw [nth_mapN _ _ (by rw [pairL_len]; exact hi), pairL_nth hi, bt_both _ _ (by omega), pairL_nth hj, pairL_len]
  simp [hj]
/-- The first parts of the pairs. -/
def fstL (N m : Nat) : List Nat := (List.range (N * m)).map (· / m)
omit okA okB h in
theorem fstL_len (N m : Nat) : (fstL N m).length = N * m := by simp [fstL]
omit okA okB h in
theorem fstL_nth {N m i : Nat} (hi : i < N * m) : nth (fstL N m) i = i / m := by
  unfold fstL; rw [nth_mapN _ _ (by simpa using hi), nth_range hi]
theorem pr_bmod (he : ∀ q, q < A.rel.length → ∀ v, v < m → bt (nth (nth B.rel q) v) v = true) : Bmod A (prM A B) N (fstL N m) := by
  obtain ⟨s1, s2, s3⟩ := pr_size okA okB h
  have okM := pr_ok okA okB h
  have hm0 : 0 < m := okB.one
  have dlt : ∀ i, i < N * m → i / m < N := fun i hi => Nat.div_lt_of_lt_mul (by rw [Nat.mul_comm]; exact hi)
  have mlt : ∀ i, i % m < m := fun i => Nat.mod_lt _ hm0
  have hrel : (prM A B).rel.length = A.rel.length := by rw [prM_eq okA okB h]; simp
  -- the world beside a world
  have lift : ∀ i u, i < N * m → u < N → ∃ j, j < N * m ∧ j / m = u ∧ j % m = i % m := fun i u hi hu => by
    refine ⟨m * u + i % m, ?_, ?_, ?_⟩
    · have h1 := mlt i
      have h2 : m * (u + 1) ≤ m * N := Nat.mul_le_mul_left m hu
      rw [Nat.mul_comm N m]
      rw [Nat.mul_add, Nat.mul_one] at h2; omega
    · rw [Nat.mul_add_div hm0, Nat.div_eq_of_lt (mlt i)]; omega
    · rw [Nat.mul_add_mod, Nat.mod_mod]
  have inN : ∀ {r : List (BitVec 64)}, (∀ v, v < N → Sub (nth r v) (allW N)) → ∀ v u, v < N → bt (nth r v) u = true → u < N := by
    intro r hr v u hv hb
    have h64 := bt_lt64 hb
    have := hr v hv u h64 hb
    rw [bt_allW] at this; simp at this; exact this.2
  have mk : ∀ {r r' : List (BitVec 64)}, r.length = N ∧ (∀ v, v < N → Sub (nth r v) (allW N)) → r'.length = N * m ∧ (∀ v, v < N * m → Sub (nth r' v) (allW (N * m))) →
      (∀ i j, i < N * m → j < N * m → bt (nth r' i) j = true → bt (nth r (i / m)) (j / m) = true) →
      (∀ i u j, i < N * m → u < N → j < N * m → j / m = u → j % m = i % m → bt (nth r (i / m)) u = true → bt (nth r' i) j = true) → Bmo r r' N (fstL N m) := by
    intro r r' h1 h2 h3 h4
    refine ⟨h1.1, by rw [fstL_len]; exact h2.1, h1.2, by rw [fstL_len]; exact h2.2, ?_, ?_⟩
    · intro i j hi hj hb
      rw [fstL_len] at hi hj
      rw [fstL_nth hi, fstL_nth hj]
      exact h3 i j hi hj hb
    · intro i u hi hb
      rw [fstL_len] at hi
      rw [fstL_nth hi] at hb
      have hu := inN h1.2 _ _ (dlt i hi) hb
      obtain ⟨j, j1, j2, j3⟩ := lift i u hi hu
      exact ⟨j, by rw [fstL_len]; exact j1, by rw [fstL_nth j1]; exact j2, h4 i u j hi hu j1 j2 j3 hb⟩
  refine ⟨okA, by rw [fstL_len]; exact okM, fun i hi => by rw [fstL_len] at hi; rw [fstL_nth hi]; exact dlt i hi, by rw [fstL_len]; exact Nat.le_mul_of_pos_right N hm0, hrel, by rw [prM_eq okA okB h]; simp, ?_, ?_, ?_, ?_⟩
  · intro k hk i hi
    rw [fstL_len] at hi
    have e : nth (prM A B).val k = bothS (pairL N m) (nth A.val k) (allW m) := by
      rw [prM_eq okA okB h]
      show nth (_ ++ _) k = _
      rw [nth_append_left (by simpa using hk), nth_mapN _ _ hk]
    rw [e, fstL_nth hi, bt_both _ _ (by omega), pairL_nth hi, pairL_len, bt_allW]
    have h1 := mlt i
    have h2 := okB.most
    have h3 : i % m < 64 := by omega
    simp [hi, h1, h3]
  · intro q hq
    refine mk (row_in okA hq) (row_in okM (by rw [hrel]; exact hq)) ?_ ?_
    · intro i j hi hj hb
      rw [pr_cell okA okB h hq hi hj, Bool.and_eq_true] at hb
      exact hb.1
    · intro i u j hi hu hj e1 e2 hb
      rw [pr_cell okA okB h hq hi hj, e1, e2, hb, he q hq _ (mlt i)]; rfl
  · intro G h1 h2
    have h2' : (G : Int) < p2 (prM A B).rel.length := by rw [hrel]; exact h2
    refine mk (group_in okA h1 h2) (group_in okM h1 h2') ?_ ?_
    · intro i j hi hj hb
      rw [group_row okM h1 h2' hi, bt_joinRow, hrel] at hb
      obtain ⟨a, a1, a2, a3⟩ := hb
      rw [pr_cell okA okB h a1 hi hj, Bool.and_eq_true] at a3
      rw [group_row okA h1 h2 (dlt i hi), bt_joinRow]
      exact ⟨a, a1, a2, a3.1⟩
    · intro i u j hi hu hj e1 e2 hb
      rw [group_row okA h1 h2 (dlt i hi), bt_joinRow] at hb
      obtain ⟨a, a1, a2, a3⟩ := hb
      rw [group_row okM h1 h2' hi, bt_joinRow, hrel]
      exact ⟨a, a1, a2, by rw [pr_cell okA okB h a1 hi hj, e1, e2, a3, he a a1 _ (mlt i)]; rfl⟩
  · intro G h1 h2
    have h2' : (G : Int) < p2 (prM A B).rel.length := by rw [hrel]; exact h2
    have hA64 := okA.most
    refine mk (meet_in okA h1 h2) (meet_in okM h1 h2') ?_ ?_
    · intro i j hi hj hb
      rw [meet_row okM h1 h2' hi, bt_meetRow _ _ _ _ hj (by omega), hrel, allQ_iff] at hb
      rw [meet_row okA h1 h2 (dlt i hi), bt_meetRow _ _ _ _ (dlt j hj) (by have := dlt j hj; omega), allQ_iff]
      intro a ha
      have := hb a ha
      rw [pr_cell okA okB h ha hi hj] at this
      cases hg : G.testBit a
      · rfl
      · rw [hg] at this; simp at this; simp [this.1]
    · intro i u j hi hu hj e1 e2 hb
      rw [meet_row okA h1 h2 (dlt i hi), bt_meetRow _ _ _ _ hu (by omega), allQ_iff] at hb
      rw [meet_row okM h1 h2' hi, bt_meetRow _ _ _ _ hj (by omega), hrel, allQ_iff]
      intro a ha
      have := hb a ha
      rw [pr_cell okA okB h ha hi hj, e1, e2, he a ha _ (mlt i)]
      simpa using this
/-- A formula about the first one of two models holds at a pair exactly if it holds at its first part. -/
theorem sides_law (he : ∀ q, q < A.rel.length → eqvB (nth B.rel q) = true) {f : List Nd} (hf : reqErr A f = 0) : reqErr (prM A B) f = 0 ∧ ∀ i, i < N * m → bt (holdsOf (prM A B) f) i = bt (holdsOf A f) (i / m) := by
  obtain ⟨s1, s2, s3⟩ := pr_size okA okB h
  have hb := pr_bmod okA okB h fun q hq v hv => (eqvB_iff.1 (he q hq) v (by rw [(row_in okB (by omega)).1]; exact hv)).1
  have hc := (reqErr_ok hf).2.1
  have If := IsF.of hc
  obtain ⟨a1, a2⟩ := set_sem okA.check If
  obtain ⟨b1, b2⟩ := set_sem (pr_ok okA okB h).check If
  rw [hf] at a1
  obtain ⟨c1, c2⟩ := sem_bmo hb (rt f) If.fk (by rw [← a1]; rfl)
  rw [c1] at b1
  refine ⟨by simpa using b1, fun i hi => ?_⟩
  rw [b2, a2, c2 i (by rw [fstL_len]; exact hi), fstL_nth hi]
end
end Wt

/- Plain: secret votes and dining cryptographers: what package secrets computes. -/
namespace Wt
open Go Go.RowKit Go.Proofs Fm

/-- All valuations of n facts. -/
def fullB (n : Nat) : BitVec 64 := if n = 6 then 18446744073709551615#64 else 1#64 <<< (2 ^ n) - 1#64
def ccFact (i : Int) : List Nd := fB ⟨3, i, 0, 0, 0, 0⟩ []
def ccNot (f : List Nd) : List Nd := fB ⟨4, 0, 0, 0, 0, 0⟩ [f]
def ccAnd (f g : List Nd) : List Nd := fB ⟨5, 0, 0, 0, 0, 0⟩ [f, g]
def ccOr (f g : List Nd) : List Nd := fB ⟨6, 0, 0, 0, 0, 0⟩ [f, g]
def ccImp (f g : List Nd) : List Nd := fB ⟨7, 0, 0, 0, 0, 0⟩ [f, g]
def ccIff (f g : List Nd) : List Nd := fB ⟨8, 0, 0, 0, 0, 0⟩ [f, g]
def ccDist (g : Int) (f : List Nd) : List Nd := fB ⟨12, 0, 0, g, 0, 0⟩ [f]
def ccTrue : List Nd := fB ⟨1, 0, 0, 0, 0, 0⟩ []
def ccFalse : List Nd := fB ⟨2, 0, 0, 0, 0, 0⟩ []
/-- The formula of a table, by cases of the last fact. -/
def decF : Nat → BitVec 64 → List Nd
  | 0, t => if t = 0#64 then ccFalse else ccTrue
  | n + 1, t =>
    if t = 0#64 then ccFalse else if t = fullB (n + 1) then ccTrue
    else
      let low := t &&& fullB n
      let high := t >>> (2 ^ n)
      if low = high then decF n low
      else
        let p := ccFact (n : Int)
        if low = 0#64 ∧ high = fullB n then p
        else if high = 0#64 ∧ low = fullB n then ccNot p
        else if low = 0#64 then ccAnd p (decF n high)
        else if high = 0#64 then ccAnd (ccNot p) (decF n low)
        else if low = fullB n then ccImp p (decF n high)
        else if high = fullB n then ccOr p (decF n low)
        else ccAnd (ccImp p (decF n high)) (ccOr p (decF n low))
/-- The formula of the valuations that a property selects. -/
def amongF (n : Nat) (p : Nat → Bool) : List Nd := decF n (setTo p (2 ^ n))
/-- The number of true facts. -/
def onesN (v : Nat) : Nat := (List.range 64).countP fun i => v.testBit i
def votesM (n : Nat) : Mo := obM (n : Int) ccTrue ((List.range n).map fun i : Nat => [ccFact (i : Int)])
/-- A model with an actual world. -/
def annW (p : Mo × Int) (f : List Nd) : Mo × Int :=
  let set := if bt (holdsOf p.1 f) p.2.toNat then holdsOf p.1 f else if p.1.worlds < 64 then ~~~ holdsOf p.1 f &&& (1#64 <<< p.1.worlds.toNat - 1#64) else ~~~ holdsOf p.1 f
  (resM p.1 set, posI (if resErr p.1 set = 0 then memL set else []) p.2)
def knowsW (p : Mo × Int) (g i : Int) : Bool := atOf p.1 p.2 (ccDist g (ccFact i)) || atOf p.1 p.2 (ccDist g (ccNot (ccFact i)))
def tallyF (n k : Nat) : List Nd := amongF n fun v => onesN v == k
def passF (n k : Nat) : List Nd := amongF n fun v => decide (k ≤ onesN v)
def countedW (n v : Nat) : Mo × Int := annW (votesM n, (v : Int)) (tallyF n (onesN v))
def decidedW (n v q : Nat) : Mo × Int := annW (votesM n, (v : Int)) (passF n q)
def dinLaw (n : Nat) : List Nd := amongF (2 * n) fun v => decide (onesN (v &&& (2 ^ n - 1)) ≤ 1)
def dinSeen (n : Nat) : List (List (List Nd)) := (List.range n).map fun i : Nat => [ccFact (i : Int), ccFact ((n + i : Nat) : Int), ccFact ((n + (i + n - 1) % n : Nat) : Int)]
def dinM (n : Nat) : Mo := obM ((2 * n : Nat) : Int) (dinLaw n) (dinSeen n)
def dinS (n : Nat) : List Nat := obS ((2 * n : Nat) : Int) (dinLaw n) (dinSeen n)
def sayF (n a : Nat) : List Nd := ccIff (ccIff (ccFact ((n + a : Nat) : Int)) (ccFact ((n + (a + n - 1) % n : Nat) : Int))) (ccFact (a : Int))
/-- After all have spoken; the payer p - 1, none if p = 0. -/
def spokeW (n p c : Nat) : Mo × Int := (List.range n).foldl (fun q i => annW q (sayF n i)) (dinM n, posI (dinS n) ((c * 2 ^ n + (if p = 0 then 0 else 2 ^ (p - 1)) : Nat) : Int))
/-! What a coalition knows, read off the rows. -/
theorem fok_factS {i : Nat} (h : i < 8) : fok (.leaf 3 (i : Int) 0 0) := ⟨rfl, rfl, by simp [needless, useOf], by simp [wide, useOf, outs]; omega⟩
theorem isF_fact {i : Nat} (h : i < 8) : IsF (ccFact (i : Int)) (.leaf 3 (i : Int) 0 0) := by
  have h1 : ∀ i : _root_.Fin 8, fCheck (ccFact ((i.val : Nat) : Int)) = 0 ∧ rt (ccFact ((i.val : Nat) : Int)) = .leaf 3 ((i.val : Nat) : Int) 0 0 := by decide +kernel
  exact ⟨(h1 ⟨i, h⟩).1, (h1 ⟨i, h⟩).2⟩
theorem isF_notFact {i : Nat} (h : i < 8) : IsF (ccNot (ccFact (i : Int))) (.un 4 0 0 0 (.leaf 3 (i : Int) 0 0)) := by
  have h1 : ∀ i : _root_.Fin 8, fCheck (ccNot (ccFact ((i.val : Nat) : Int))) = 0 ∧ rt (ccNot (ccFact ((i.val : Nat) : Int))) = .un 4 0 0 0 (.leaf 3 ((i.val : Nat) : Int) 0 0) := by decide +kernel
  exact ⟨(h1 ⟨i, h⟩).1, (h1 ⟨i, h⟩).2⟩
section
variable {M : Mo} {N : Nat} (ok : MoOk M N)
/-- A right formula at a world of a right model. -/
theorem at_sem {f : List Nd} {a : Fm} (hM : moCheck M = 0) (hw : M.worlds = N) (hf : IsF f a) (hs : (semT M a).2 = true) {x : Nat} (hx : x < N) : atErr M (x : Int) f = 0 ∧ atOf M (x : Int) f = bt (semT M a).1 x := by
  obtain ⟨h1, h2⟩ := set_sem hM hf
  rw [hs] at h1
  have h3 : reqErr M f = 0 := by simpa using h1
  have h4 : atErr M (x : Int) f = 0 := by
    unfold atErr inMo
    rw [if_neg (by simp [h3]), hw, if_pos (by simp; omega)]
  refine ⟨h4, ?_⟩
  unfold atOf
  rw [h4, h2]; simp
def distB (M : Mo) (N g : Nat) (s : BitVec 64) (x : Nat) : Bool := gRow (jOf true) (zOf true N) M.rel g x M.rel.length &&& ~~~ s == 0#64
def knowsB (M : Mo) (N x g i : Nat) : Bool := distB M N g (nth M.val i) x || distB M N g (allW N &&& ~~~ nth M.val i) x
include ok
theorem dist_at {f : List Nd} {a : Fm} (hM : moCheck M = 0) (hf : IsF f a) {s : BitVec 64} (hs : semT M a = (s, true)) (hz : fsize a ≤ 100) {g x : Nat} (h1 : 1 ≤ g) (h2 : (g : Int) < p2 M.rel.length) (hx : x < N) :
    atErr M (x : Int) (ccDist (g : Int) f) = 0 ∧ atOf M (x : Int) (ccDist (g : Int) f) = distB M N g s x := by
  have h15 : (1 : Int) ≤ (g : Int) ∧ (g : Int) ≤ 15 := by
    have : p2 M.rel.length ≤ 16 := by
      have := ok.rel
      rcases (show M.rel.length = 0 ∨ M.rel.length = 1 ∨ M.rel.length = 2 ∨ M.rel.length = 3 ∨ M.rel.length = 4 by omega) with h | h | h | h | h <;> rw [h] <;> decide
    omega
  have hd : IsF (ccDist (g : Int) f) (.un 12 0 0 (g : Int) a) := isF_un hf (fok_dist _ h15 hf.fk) (by have := fsize_un (a := a) 12 0 0 (g : Int); omega)
  have hng : ¬ (p2 M.rel.length ≤ (g : Int)) := by omega
  have e : semT M (.un 12 0 0 (g : Int) a) = (relBox (meetOf M g) s, true) := by
    rw [semT_un _ _ _ _ (by rw [hs]), hs]; simp [valN, hng]
  obtain ⟨h3, h4⟩ := at_sem hM ok.worlds hd (by rw [e]) hx
  refine ⟨h3, ?_⟩
  rw [h4, e]
  have hx64 : x < 64 := by have := ok.most; omega
  obtain ⟨hl, hrow⟩ := meet_in ok h1 h2
  show bt (relBox (meetOf M g) s) x = _
  rw [bt_relBox _ _ _ hx64, hl, rel_ok hl ok.most hrow, meet_row ok h1 h2 hx]
  simp [hx, distB]
theorem knowsW_eq (hM : moCheck M = 0) {x g i : Nat} (hx : x < N) (h1 : 1 ≤ g) (h2 : (g : Int) < p2 M.rel.length) (hi : i < M.val.length) : knowsW (M, (x : Int)) (g : Int) (i : Int) = knowsB M N x g i := by
  have hv := ok.val
  have hni : ¬ ((M.val.length : Int) ≤ (i : Int)) := by omega
  have e1 : semT M (.leaf 3 (i : Int) 0 0) = (nth M.val i, true) := by simp [semT, valN, hni]
  have hN : M.worlds.toNat = N := by rw [ok.worlds]; rfl
  have e2 : semT M (.un 4 0 0 0 (.leaf 3 (i : Int) 0 0)) = (allW N &&& ~~~ nth M.val i, true) := by
    rw [semT_un _ _ _ _ (by rw [e1]), e1]; simp [valN, hN]
  have z1 : fsize (.leaf 3 (i : Int) 0 0) ≤ 1 := by simp [fsize, addT, put]
  obtain ⟨-, a1⟩ := dist_at ok hM (isF_fact (i := i) (by omega)) e1 (by omega) h1 h2 hx
  obtain ⟨-, a2⟩ := dist_at ok hM (isF_notFact (i := i) (by omega)) e2 (by have := fsize_un (a := .leaf 3 (i : Int) 0 0) 4 0 0 0; omega) h1 h2 hx
  unfold knowsW knowsB
  rw [a1, a2]
end
end Wt

/- Walks: boolean.full, tableError, decide, FromTable. -/
namespace Wt
open Go Go.RowKit Go.Maps Go.Proofs Fm

theorem un_pow (n : Nat) (h : n < 63) : un (1#64 <<< n) = ((2 ^ n : Nat) : Int) := by
  have h2 : 2 ^ n < 2 ^ 64 := Nat.pow_lt_pow_right (by omega) (by omega)
  unfold un
  rw [BitVec.toNat_shiftLeft, Nat.shiftLeft_eq]
  simp only [BitVec.toNat_ofNat]
  rw [show (1 : Nat) % 2 ^ 64 = 1 from rfl, Nat.one_mul, Nat.mod_eq_of_lt h2]
theorem shift_shr_un (s : BitVec 64) (yk : IntKind) (n : Nat) (h : n < 63) : Op.shift .shr .u64 (un s) yk (un (1#64 <<< n)) = pure (.int .u64 (un (s >>> 2 ^ n))) := by
  rw [un_pow n h]; exact shift_shr_bv s yk (2 ^ n)
theorem shift_shl_un (yk : IntKind) (n : Nat) (h : n < 63) : Op.shift .shl .u64 1 yk (un (1#64 <<< n)) = pure (.int .u64 (un (1#64 <<< 2 ^ n))) := by
  rw [un_pow n h]; exact shift_shl_bv 1#64 yk (2 ^ n)
attribute [go_sem ↓] shift_shr_un shift_shl_un
theorem full_any (n : Nat) (h : n ≤ 6) (w : World) :
    Calls Tryz.prog 153 #[.int .i64 (n : Int)] w fun e w' => e = .returned (.int .u64 (un (fullB n))) ∧ w = w' := by
  by_cases h6 : n = 6
  · subst h6
    go_enter Tryz.func153, Tryz.ntmps153
    go_wp2
    go_ret
    exact ⟨rfl, rfl⟩
  · have h63 : n < 63 := by omega
    have hq : ((n : Int) == 6) = false := by simp; omega
    have HF : Hid (fullB n = 1#64 <<< 2 ^ n - 1#64) := Lib.hid (if_neg h6)
    clear h6
    go_enter Tryz.func153, Tryz.ntmps153
    go_wp2
    go_ret
    exact ⟨by rw [HF.out]; rfl, rfl⟩
theorem bt_fullB : ∀ n : _root_.Fin 7, ∀ k : _root_.Fin 64, bt (fullB n.val) k.val = decide (k.val < 2 ^ n.val) := by decide +kernel
theorem bt_full {n k : Nat} (hn : n ≤ 6) (hk : k < 64) : bt (fullB n) k = decide (k < 2 ^ n) := bt_fullB ⟨n, by omega⟩ ⟨k, hk⟩
theorem low_in (n : Nat) (t : BitVec 64) : (t &&& fullB n) &&& ~~~ fullB n = 0#64 := andNot_zero.2 fun k _ h => by
  rw [bt_and] at h; simp at h; exact h.2
theorem high_in {n : Nat} (hn : n + 1 ≤ 6) {t : BitVec 64} (h : t &&& ~~~ fullB (n + 1) = 0#64) : (t >>> 2 ^ n) &&& ~~~ fullB n = 0#64 := andNot_zero.2 fun k hk h2 => by
  have h3 : bt t (2 ^ n + k) = true := by
    unfold bt at h2 ⊢; rw [BitVec.getLsbD_ushiftRight] at h2; exact h2
  by_cases h4 : 2 ^ n + k < 64
  · have h5 := andNot_zero.1 h _ h4 h3
    rw [bt_full hn h4] at h5
    rw [bt_full (by omega) hk]
    have h6 := of_decide_eq_true h5
    rw [Nat.pow_succ] at h6
    exact decide_eq_true (by omega)
  · unfold bt at h3
    rw [BitVec.getLsbD_of_ge _ _ (by omega)] at h3; cases h3
/-- The cases of decide. -/
theorem decF_no (n : Nat) {t : BitVec 64} (h : t = 0#64) : decF n t = ccFalse := by cases n <;> simp [decF, h]
theorem decF_all (n : Nat) {t : BitVec 64} (h : t ≠ 0#64) (h2 : t = fullB n) : decF n t = ccTrue := by
  cases n with
  | zero => simp [decF, h]
  | succ n => unfold decF; rw [if_neg h, if_pos h2]
theorem tab_zero {t : BitVec 64} (h : t &&& ~~~ fullB 0 = 0#64) (h0 : t ≠ 0#64) : t = fullB 0 := by
  have e : fullB 0 = 1#64 <<< 0 := by decide
  rw [e] at h ⊢
  have hs := andNot_zero.1 h
  have hb : bt t 0 = true := by
    cases h1 : bt t 0
    · refine absurd (bt_ext fun k hk => ?_) h0
      rw [bt_zero]
      cases h2 : bt t k
      · rfl
      · have := hs k hk h2
        rw [bt_shl1] at this
        simp at this
        obtain rfl : k = 0 := this.2
        rw [h1] at h2; cases h2
    · rfl
  refine bt_ext fun k hk => ?_
  rw [bt_shl1]
  by_cases e : k = 0
  · subst e; rw [hb]; simp
  · cases h2 : bt t k
    · simp [e]
    · have := hs k hk h2
      rw [bt_shl1] at this; simp [e] at this
end Wt
