/- Plain laws: a model of some worlds of a model, closed under all relations, has the same sets at them. -/
import Derived.Test.YtdnpgadkklgjeaaDoorGrp
import Derived.Test.YtdnpgadkklgjeaaDoorTz
namespace Wt
open Go Go.RowKit Go.Proofs Fm

/-- The model whose world i is the world of a list at this place. -/
def arrM (M : Mo) (ws : List Nat) : Mo := ⟨ws.length, M.val.map (fun s => pullL s ws), M.rel.map fun r => ws.map fun w => pullL (nth r w) ws⟩
/-- A relation of a model, at the worlds of a list, that leads to worlds of the list alone. -/
structure Arr (r r' : List (BitVec 64)) (N : Nat) (ws : List Nat) : Prop where
  len : r.length = N
  len' : r'.length = ws.length
  row : ∀ i, i < ws.length → nth r' i = pullL (nth r (nth ws i)) ws
  inN : ∀ v, v < N → Sub (nth r v) (allW N)
  cl : ∀ i, i < ws.length → ∀ u, bt (nth r (nth ws i)) u = true → ∃ j, j < ws.length ∧ nth ws j = u
/-- The sets agree at the worlds of the list. -/
def Agr (ws : List Nat) (x' x : BitVec 64) : Prop := ∀ i, i < ws.length → bt x' i = bt x (nth ws i)
section
variable {N : Nat} {ws : List Nat} (h64 : N ≤ 64) (hl : ws.length ≤ 64) (hlt : ∀ i, i < ws.length → nth ws i < N)
theorem pull_in (s : BitVec 64) (hl : ws.length ≤ 64) : Sub (pullL s ws) (allW ws.length) := fun k hk hb => by
  rw [bt_pullL s ws hl, Bool.and_eq_true] at hb
  rw [bt_allW]; simp at hb ⊢; exact ⟨hk, hb.1⟩
include hl in
theorem pull_agr (s : BitVec 64) : Agr ws (pullL s ws) s := fun i hi => by rw [bt_pullL s ws hl]; simp [hi]
include h64 hl hlt in
theorem all_agr : Agr ws (allW ws.length) (allW N) := fun i hi => by
  have := hlt i hi
  rw [bt_allW, bt_allW]
  have h1 : i < 64 := by omega
  have h2 : nth ws i < 64 := by omega
  simp [hi, h1, h2, this]
include h64 hl hlt in
theorem not_agr {x' x : BitVec 64} (h : Agr ws x' x) : Agr ws (allW ws.length &&& ~~~ x') (allW N &&& ~~~ x) := fun i hi => by
  have h1 : i < 64 := by omega
  have h2 : nth ws i < 64 := by have := hlt i hi; omega
  rw [bt_and, bt_and, bt_not, bt_not, all_agr h64 hl hlt i hi, h i hi]
  simp [h1, h2]
theorem and_agr {x' x y' y : BitVec 64} (h : Agr ws x' x) (h2 : Agr ws y' y) : Agr ws (x' &&& y') (x &&& y) := fun i hi => by rw [bt_and, bt_and, h i hi, h2 i hi]
theorem or_agr {x' x y' y : BitVec 64} (h : Agr ws x' x) (h2 : Agr ws y' y) : Agr ws (x' ||| y') (x ||| y) := fun i hi => by rw [bt_or, bt_or, h i hi, h2 i hi]
theorem xor_agr {x' x y' y : BitVec 64} (h : Agr ws x' x) (h2 : Agr ws y' y) : Agr ws (x' ^^^ y') (x ^^^ y) := fun i hi => by rw [bt_xor, bt_xor, h i hi, h2 i hi]
include h64 hl hlt in
theorem box_agr {r r' : List (BitVec 64)} (hA : Arr r r' N ws) {x' x : BitVec 64} (h : Agr ws x' x) : Agr ws (relBox r' x') (relBox r x) := fun i hi => by
  have hi64 : i < 64 := by omega
  have hwi := hlt i hi
  have hrow' : ∀ v, v < ws.length → Sub (nth r' v) (allW ws.length) := fun v hv => by rw [hA.row v hv]; exact pull_in _ hl
  rw [bt_relBox _ _ _ hi64, bt_relBox _ _ _ (by omega), hA.len, hA.len', rel_ok hA.len h64 hA.inN, rel_ok hA.len' hl hrow', hA.row i hi]
  have e : (pullL (nth r (nth ws i)) ws &&& ~~~ x' == 0#64) = (nth r (nth ws i) &&& ~~~ x == 0#64) := by
    rw [Bool.eq_iff_iff, sub_bool, sub_bool]
    constructor
    · intro h2 u hu hb
      obtain ⟨j, hj, rfl⟩ := hA.cl i hi u hb
      have h3 := h2 j (by omega) (by rw [bt_pullL _ _ hl]; simp [hj, hb])
      rw [h j hj] at h3; exact h3
    · intro h2 j hj hb
      rw [bt_pullL _ _ hl, Bool.and_eq_true, decide_eq_true_eq] at hb
      rw [h j hb.1]
      exact h2 _ (by have := hlt j hb.1; omega) hb.2
  rw [e]; simp [hi, hwi]
include h64 hl hlt in
theorem cmnI_agr {r r' : List (BitVec 64)} (hA : Arr r r' N ws) {c' c s' s : BitVec 64} (hc : Agr ws c' c) (hs : Agr ws s' s) : ∀ k, Agr ws (cmnI r' ws.length c' s' k) (cmnI r N c s k)
  | 0 => all_agr h64 hl hlt
  | k + 1 => box_agr h64 hl hlt hA (or_agr (not_agr h64 hl hlt hc) (and_agr hs (cmnI_agr hA hc hs k)))
include h64 hl hlt in
theorem cmn_agr (hN : ws.length ≤ N) {r r' : List (BitVec 64)} (hA : Arr r r' N ws) {c' c s' s : BitVec 64} (hc : Agr ws c' c) (hs : Agr ws s' s) : Agr ws (cmn r' ws.length c' s') (cmn r N c s) := by
  have hfix := cmnI_fix r' ws.length (by rw [hA.len']; exact Nat.le_refl _) c' s'
  have hk := cmnI_const r' ws.length c' s' ws.length hfix (N - ws.length)
  rw [show ws.length + (N - ws.length) = N by omega] at hk
  unfold cmn
  rw [← hk]
  exact cmnI_agr h64 hl hlt hA hc hs N
end
theorem nth_out {α : Type} [Inhabited α] {l : List α} {k : Nat} (h : l.length ≤ k) : nth l k = default := by unfold nth; simp [List.getD, h]
theorem pull_or (a b : BitVec 64) (ws : List Nat) (hl : ws.length ≤ 64) : pullL (a ||| b) ws = pullL a ws ||| pullL b ws := bt_ext fun k hk => by
  rw [bt_or, bt_pullL _ _ hl, bt_pullL _ _ hl, bt_pullL _ _ hl, bt_or]; cases decide (k < ws.length) <;> simp
theorem pull_and (a b : BitVec 64) (ws : List Nat) (hl : ws.length ≤ 64) : pullL (a &&& b) ws = pullL a ws &&& pullL b ws := bt_ext fun k hk => by
  rw [bt_and, bt_pullL _ _ hl, bt_pullL _ _ hl, bt_pullL _ _ hl, bt_and]; cases decide (k < ws.length) <;> simp
/-- Some worlds of a model, closed under all relations. -/
structure Subm (M : Mo) (N : Nat) (ws : List Nat) : Prop where
  ok : MoOk M N
  one : 1 ≤ ws.length
  inj : ws.Nodup
  lt : ∀ i, i < ws.length → nth ws i < N
  cl : ∀ q, q < M.rel.length → ∀ i, i < ws.length → ∀ u, bt (nth (nth M.rel q) (nth ws i)) u = true → ∃ j, j < ws.length ∧ nth ws j = u
section
variable {M : Mo} {N : Nat} {ws : List Nat} (h : Subm M N ws)
include h
theorem Subm.le : ws.length ≤ N := by
  have := nodup_sub_len (L := ws) (M := List.range N) h.inj (fun x hx => by
    obtain ⟨i, hi, rfl⟩ := List.getElem_of_mem hx
    have := h.lt i hi
    rw [nth_eq _ _ hi] at this
    exact List.mem_range.2 this)
  simpa using this
theorem Subm.l64 : ws.length ≤ 64 := Nat.le_trans h.le h.ok.most
omit h in
theorem arr_row {q : Nat} (hq : q < M.rel.length) : nth (arrM M ws).rel q = ws.map fun w => pullL (nth (nth M.rel q) w) ws := nth_mapN _ _ hq
omit h in
theorem arr_cell {q i : Nat} (hq : q < M.rel.length) (hi : i < ws.length) : nth (nth (arrM M ws).rel q) i = pullL (nth (nth M.rel q) (nth ws i)) ws := by
  rw [arr_row hq, nth_mapN _ _ hi]
theorem arr_ok : MoOk (arrM M ws) ws.length where
  worlds := rfl
  one := h.one
  most := h.l64
  rel := by simpa [arrM] using h.ok.rel
  val := by simpa [arrM] using h.ok.val
  row := fun r hr => by
    simp only [arrM, List.mem_map] at hr
    obtain ⟨r0, _, rfl⟩ := hr
    simp
  valIn := fun s hs => by
    simp only [arrM, List.mem_map] at hs
    obtain ⟨s0, _, rfl⟩ := hs
    exact andNot_zero.2 (pull_in _ h.l64)
  relIn := fun r hr s hs => by
    simp only [arrM, List.mem_map] at hr
    obtain ⟨r0, _, rfl⟩ := hr
    simp only [List.mem_map] at hs
    obtain ⟨w0, _, rfl⟩ := hs
    exact andNot_zero.2 (pull_in _ h.l64)
theorem agent_arr {q : Nat} (hq : q < M.rel.length) : Arr (nth M.rel q) (nth (arrM M ws).rel q) N ws where
  len := (row_in h.ok hq).1
  len' := by rw [arr_row hq]; simp
  row := fun i hi => arr_cell hq hi
  inN := (row_in h.ok hq).2
  cl := h.cl q hq
theorem gRow_arr (b : Bool) (G : Nat) {i : Nat} (hi : i < ws.length) : ∀ q, q ≤ M.rel.length → gRow (jOf b) (zOf b ws.length) (arrM M ws).rel G i q = pullL (gRow (jOf b) (zOf b N) M.rel G (nth ws i) q) ws
  | 0, _ => by
    show zOf b ws.length = pullL (zOf b N) ws
    apply bt_ext
    intro k hk
    rw [bt_pullL _ _ h.l64]
    cases b
    · simp [zOf, bt_zero]
    · show bt (allW ws.length) k = _
      rw [bt_allW]
      by_cases hk2 : k < ws.length
      · have := h.lt k hk2
        have h3 := h.ok.most
        show _ = (_ && bt (allW N) (nth ws k))
        rw [bt_allW]
        simp [hk, hk2, this]; omega
      · simp [hk2]
  | q + 1, hq => by
    have ih := gRow_arr b G hi q (by omega)
    cases hb : G.testBit q
    · rw [gRow_no hb, gRow_no hb]; exact ih
    · rw [gRow_yes hb, gRow_yes hb, ih, arr_cell (by omega) hi]
      cases b
      · exact (pull_or _ _ ws h.l64).symm
      · exact (pull_and _ _ ws h.l64).symm
omit h in
theorem rel_len : (arrM M ws).rel.length = M.rel.length := by simp [arrM]
theorem or_cl (G : Nat) {i : Nat} (hi : i < ws.length) {u : Nat} : ∀ q, q ≤ M.rel.length → bt (gRow (jOf false) (zOf false N) M.rel G (nth ws i) q) u = true → ∃ j, j < ws.length ∧ nth ws j = u
  | 0, _, hb => by simp [gRow, zOf, bt_zero] at hb
  | q + 1, hq, hb => by
    cases hg : G.testBit q
    · rw [gRow_no hg] at hb; exact or_cl G hi q (by omega) hb
    · rw [gRow_yes hg] at hb
      have hb : bt (_ ||| _) u = true := hb
      rw [bt_or, Bool.or_eq_true] at hb
      rcases hb with hb | hb
      · exact or_cl G hi q (by omega) hb
      · exact h.cl q (by omega) i hi u hb
omit h in
theorem and_sub_row (G : Nat) {v u p : Nat} (hp : G.testBit p = true) : ∀ q, p < q → bt (gRow (jOf true) (zOf true N) M.rel G v q) u = true → bt (nth (nth M.rel p) v) u = true
  | 0, hq, _ => absurd hq (Nat.not_lt_zero _)
  | q + 1, hq, hb => by
    by_cases hpq : p = q
    · subst hpq
      rw [gRow_yes hp] at hb
      have hb : bt (_ &&& _) u = true := hb
      rw [bt_and, Bool.and_eq_true] at hb
      exact hb.2
    · cases hg : G.testBit q
      · rw [gRow_no hg] at hb; exact and_sub_row G hp q (by omega) hb
      · rw [gRow_yes hg] at hb
        have hb : bt (_ &&& _) u = true := hb
        rw [bt_and, Bool.and_eq_true] at hb
        exact and_sub_row G hp q (by omega) hb.1
theorem group_arr {G : Nat} (h1 : 1 ≤ G) (h2 : (G : Int) < p2 M.rel.length) : Arr (groupOf M G) (groupOf (arrM M ws) G) N ws where
  len := (group_in h.ok h1 h2).1
  len' := (group_in (arr_ok h) h1 (by rw [rel_len]; exact h2)).1
  row := fun i hi => by rw [group_row (arr_ok h) h1 (by rw [rel_len]; exact h2) hi, group_row h.ok h1 h2 (h.lt i hi), rel_len, gRow_arr h false G hi _ (Nat.le_refl _)]
  inN := (group_in h.ok h1 h2).2
  cl := fun i hi u hb => by
    rw [group_row h.ok h1 h2 (h.lt i hi)] at hb
    exact or_cl h G hi _ (Nat.le_refl _) hb
theorem meet_arr {G : Nat} (h1 : 1 ≤ G) (h2 : (G : Int) < p2 M.rel.length) : Arr (meetOf M G) (meetOf (arrM M ws) G) N ws where
  len := (meet_in h.ok h1 h2).1
  len' := (meet_in (arr_ok h) h1 (by rw [rel_len]; exact h2)).1
  row := fun i hi => by rw [meet_row (arr_ok h) h1 (by rw [rel_len]; exact h2) hi, meet_row h.ok h1 h2 (h.lt i hi), rel_len, gRow_arr h true G hi _ (Nat.le_refl _)]
  inN := (meet_in h.ok h1 h2).2
  cl := fun i hi u hb => by
    rw [meet_row h.ok h1 h2 (h.lt i hi)] at hb
    obtain ⟨p, hp1, hp2⟩ : ∃ p, p < M.rel.length ∧ G.testBit p = true := by
      apply Classical.byContradiction
      intro hno
      have : G = 0 := by
        apply Nat.eq_of_testBit_eq
        intro i
        rw [Nat.zero_testBit]
        rcases Nat.lt_or_ge i M.rel.length with h3 | h3
        · cases hb2 : G.testBit i
          · rfl
          · exact absurd ⟨i, h3, hb2⟩ hno
        · apply Nat.testBit_lt_two_pow
          unfold p2 at h2
          exact Nat.lt_of_lt_of_le (by omega) (Nat.pow_le_pow_right (by omega) h3)
      omega
    exact h.cl p hp1 i hi u (and_sub_row G hp2 _ hp1 hb)
end
/-- Two answers agree. -/
def AgrP (ws : List Nat) (p' p : BitVec 64 × Bool) : Prop := p'.2 = p.2 ∧ Agr ws p'.1 p.1
theorem agrP_ite {ws : List Nat} {c : Prop} [Decidable c] {a' a b' b : BitVec 64 × Bool} (h1 : c → AgrP ws a' a) (h2 : ¬ c → AgrP ws b' b) : AgrP ws (if c then a' else b') (if c then a else b) := by
  by_cases hc : c
  · rw [if_pos hc, if_pos hc]; exact h1 hc
  · rw [if_neg hc, if_neg hc]; exact h2 hc
theorem zero_agr (ws : List Nat) : Agr ws 0#64 0#64 := fun i _ => by rw [bt_zero, bt_zero]
theorem zero_agrP (ws : List Nat) (b : Bool) : AgrP ws (0#64, b) (0#64, b) := ⟨rfl, zero_agr ws⟩
theorem relBox_nil (x : BitVec 64) : relBox [] x = 0#64 := by simp [relBox, boxTo]
theorem relDia_nil (x : BitVec 64) : relDia [] x = 0#64 := by simp [relDia, allW]
theorem cmn_nil {n : Nat} (hn : 1 ≤ n) (c s : BitVec 64) : cmn [] n c s = 0#64 := by
  obtain ⟨k, rfl⟩ : ∃ k, n = k + 1 := ⟨n - 1, by omega⟩
  show relBox [] ((allW (k + 1) &&& ~~~ c) ||| (s &&& cmnI [] (k + 1) c s k)) = 0#64
  exact relBox_nil _
theorem gather_no {M : Mo} {g : Int} (j : BitVec 64 → BitVec 64 → BitVec 64) (hg : g < 1) : gather j M g = [] := by
  unfold gather isGroup
  rw [if_neg (by simp; omega)]
section
variable {M : Mo} {N : Nat} {ws : List Nat} (h : Subm M N ws)
include h
theorem dia_agr {q : Nat} (hq : q < M.rel.length) {x' x : BitVec 64} (hx : Agr ws x' x) : Agr ws (relDia (nth (arrM M ws).rel q) x') (relDia (nth M.rel q) x) := by
  rw [← dual_law h.ok hq, ← dual_law (arr_ok h) (by rw [rel_len]; exact hq)]
  exact not_agr h.ok.most h.l64 h.lt (box_agr h.ok.most h.l64 h.lt (agent_arr h hq) (not_agr h.ok.most h.l64 h.lt hx))
theorem valN_arr (o i g : Int) {x' x y' y : BitVec 64} (hx : Agr ws x' x) (hy : Agr ws y' y) : AgrP ws (valN (arrM M ws) o i g x' y') (valN M o i g x y) := by
  have hA : (arrM M ws).worlds.toNat = ws.length := by simp [arrM]
  have hM : M.worlds.toNat = N := by rw [h.ok.worlds]; exact Int.toNat_natCast N
  have hv : (arrM M ws).val.length = M.val.length := by simp [arrM]
  have hr : (arrM M ws).rel.length = M.rel.length := rel_len
  have all := all_agr h.ok.most h.l64 h.lt
  have nt : ∀ {a' a : BitVec 64}, Agr ws a' a → Agr ws (allW ws.length &&& ~~~ a') (allW N &&& ~~~ a) := fun ha => not_agr h.ok.most h.l64 h.lt ha
  have bx : ∀ {r r' : List (BitVec 64)}, Arr r r' N ws → ∀ {a' a : BitVec 64}, Agr ws a' a → Agr ws (relBox r' a') (relBox r a) := by
    intro r r' hr a' a ha
    exact box_agr h.ok.most h.l64 h.lt hr ha
  have grp : ∀ {j : BitVec 64 → BitVec 64 → BitVec 64}, (∀ G : Nat, 1 ≤ G → (G : Int) < p2 M.rel.length → Arr (gather j M G) (gather j (arrM M ws) G) N ws) → ¬ p2 M.rel.length ≤ g → Agr ws (relBox (gather j (arrM M ws) g) x') (relBox (gather j M g) x) := by
    intro j hj hg
    by_cases hg1 : g < 1
    · rw [gather_no j hg1, gather_no j hg1, relBox_nil, relBox_nil]; exact zero_agr ws
    · obtain ⟨G, rfl⟩ := Int.eq_ofNat_of_zero_le (show 0 ≤ g by omega)
      exact bx (hj G (by omega) (by omega)) hx
  unfold valN
  rw [hA, hM, hv, hr]
  refine agrP_ite (fun _ => ⟨rfl, all⟩) fun _ => agrP_ite (fun _ => zero_agrP ws true) fun _ => agrP_ite (fun _ => agrP_ite (fun _ => zero_agrP ws false) fun hi => ⟨rfl, ?_⟩) fun _ => agrP_ite (fun _ => ⟨rfl, nt hx⟩) fun _ => agrP_ite (fun _ => ⟨rfl, and_agr hx hy⟩) fun _ => agrP_ite (fun _ => ⟨rfl, or_agr hx hy⟩) fun _ => agrP_ite (fun _ => ⟨rfl, or_agr (nt hx) hy⟩) fun _ => agrP_ite (fun _ => ⟨rfl, nt (xor_agr hx hy)⟩) fun _ => agrP_ite (fun _ => agrP_ite (fun _ => zero_agrP ws false) fun hi => ⟨rfl, ?_⟩) fun _ => agrP_ite (fun _ => agrP_ite (fun _ => zero_agrP ws false) fun hi => ⟨rfl, ?_⟩) fun _ => agrP_ite (fun _ => agrP_ite (fun _ => zero_agrP ws false) fun hg => ⟨rfl, grp (fun G h1 h2 => group_arr h h1 h2) hg⟩) fun _ => agrP_ite (fun _ => agrP_ite (fun _ => zero_agrP ws false) fun hg => ⟨rfl, grp (fun G h1 h2 => meet_arr h h1 h2) hg⟩) fun _ => agrP_ite (fun _ => agrP_ite (fun _ => zero_agrP ws false) fun hg => ⟨rfl, ?_⟩) fun _ => zero_agrP ws false
  · show Agr ws (nth (arrM M ws).val i.toNat) (nth M.val i.toNat)
    by_cases hk : i.toNat < M.val.length
    · have e : nth (arrM M ws).val i.toNat = pullL (nth M.val i.toNat) ws := nth_mapN _ _ hk
      rw [e]; exact pull_agr h.l64 _
    · rw [nth_out (by rw [hv]; omega), nth_out (by omega)]; exact zero_agr ws
  · show Agr ws (relBox (nth (arrM M ws).rel i.toNat) x') (relBox (nth M.rel i.toNat) x)
    by_cases hk : i.toNat < M.rel.length
    · exact bx (agent_arr h hk) hx
    · rw [nth_out (by rw [hr]; omega), nth_out (by omega), show (default : List (BitVec 64)) = [] from rfl, relBox_nil, relBox_nil]; exact zero_agr ws
  · show Agr ws (relDia (nth (arrM M ws).rel i.toNat) x') (relDia (nth M.rel i.toNat) x)
    by_cases hk : i.toNat < M.rel.length
    · exact dia_agr h hk hx
    · rw [nth_out (by rw [hr]; omega), nth_out (by omega), show (default : List (BitVec 64)) = [] from rfl, relDia_nil, relDia_nil]; exact zero_agr ws
  · show Agr ws (cmn (groupOf (arrM M ws) g) ws.length x' y') (cmn (groupOf M g) N x y)
    by_cases hg1 : g < 1
    · have e1 : groupOf (arrM M ws) g = [] := gather_no _ hg1
      have e2 : groupOf M g = [] := gather_no _ hg1
      rw [e1, e2, cmn_nil h.one, cmn_nil h.ok.one]; exact zero_agr ws
    · obtain ⟨G, rfl⟩ := Int.eq_ofNat_of_zero_le (show 0 ≤ g by omega)
      exact cmn_agr h.ok.most h.l64 h.lt h.le (group_arr h (by omega) (by omega)) hx hy
/-- The sets of a tree agree at the worlds of the list. -/
theorem sem_arr : ∀ t, AgrP ws (semT (arrM M ws) t) (semT M t)
  | .leaf o i e g => valN_arr h o i g (zero_agr ws) (zero_agr ws)
  | .un o i e g x => by
    have ih := sem_arr x
    unfold semT
    rw [ih.1]
    exact agrP_ite (fun _ => valN_arr h o i g ih.2 (zero_agr ws)) fun _ => zero_agrP ws false
  | .bin o i e g x y => by
    have ih := sem_arr x
    have ih2 := sem_arr y
    unfold semT
    rw [ih.1, ih2.1]
    exact agrP_ite (fun _ => valN_arr h o i g ih.2 ih2.2) fun _ => zero_agrP ws false
end
end Wt
