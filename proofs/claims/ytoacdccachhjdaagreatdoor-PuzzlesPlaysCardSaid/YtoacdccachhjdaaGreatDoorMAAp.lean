/- Plain laws of announcements: a model of some worlds of a model; what updates, sequences, repetitions come to. -/
import Derived.Test.YtoacdccachhjdaaGreatDoorMAAo
import Derived.Test.YtoacdccachhjdaaGreatDoorMAAn
namespace Wt
open Go Go.RowKit Go.Proofs Fm

theorem nth_range {n k : Nat} (h : k < n) : nth (List.range n) k = k := by rw [nth_eq _ _ (by simpa using h)]; simp
theorem nth_ext {α : Type} [Inhabited α] {l m : List α} (h : l.length = m.length) (h2 : ∀ k, k < l.length → nth l k = nth m k) : l = m := by
  refine List.ext_getElem h fun k h3 h4 => ?_
  rw [← nth_eq _ _ h3, ← nth_eq _ _ h4]; exact h2 k h3
theorem mem_nth {α : Type} [Inhabited α] {l : List α} {x : α} (h : x ∈ l) : ∃ k, k < l.length ∧ nth l k = x := by
  obtain ⟨k, hk, e⟩ := List.getElem_of_mem h
  exact ⟨k, hk, by rw [nth_eq _ _ hk]; exact e⟩
theorem memL_allW {N : Nat} (h : N ≤ 64) : memL (allW N) = List.range N := by
  unfold memL
  have e : List.range 64 = List.range N ++ List.range' N (64 - N) := by
    rw [List.range_eq_range', List.range_eq_range']
    have := List.range'_append_1 (s := 0) (m := N) (n := 64 - N)
    rw [Nat.zero_add] at this
    rw [this]; congr 1; omega
  rw [e, List.filter_append]
  have f1 : (List.range N).filter (bt (allW N)) = List.range N := by
    rw [List.filter_eq_self]
    intro a ha
    have := List.mem_range.1 ha
    rw [bt_allW]; simp; omega
  have f2 : (List.range' N (64 - N)).filter (bt (allW N)) = [] := by
    rw [List.filter_eq_nil_iff]
    intro a ha
    rw [List.mem_range'_1] at ha
    rw [bt_allW]; simp; omega
  rw [f1, f2, List.append_nil]
theorem pull_all {N : Nat} (h : N ≤ 64) {s : BitVec 64} (hs : Sub s (allW N)) : pullL s (List.range N) = s := bt_ext fun k hk => by
  rw [bt_pullL _ _ (by simpa using h)]
  by_cases hn : k < N
  · rw [nth_range hn]; simp [hn]
  · have : bt s k = false := by
      cases hc : bt s k
      · rfl
      · have := hs k hk hc
        rw [bt_allW] at this; simp [hn] at this
    simp [hn, this]
theorem row_nth {r : List (BitVec 64)} {N : Nat} (h : N ≤ 64) (hl : r.length = N) (hr : ∀ v, v < N → Sub (nth r v) (allW N)) : (List.range N).map (fun w => pullL (nth r w) (List.range N)) = r := by
  refine nth_ext (by simp [hl]) fun k hk => ?_
  have hk : k < N := by simpa using hk
  rw [nth_mapN _ _ (by simpa using hk), nth_range hk, pull_all h (hr k hk)]
/-- All worlds: the model itself. -/
theorem arr_all {M : Mo} {N : Nat} (ok : MoOk M N) : arrM M (List.range N) = M := by
  obtain ⟨W, V, R⟩ := M
  have hV : V.map (fun s => pullL s (List.range N)) = V := by
    refine nth_ext (by simp) fun k hk => ?_
    have hk : k < V.length := by simpa using hk
    rw [nth_mapN _ _ hk, pull_all ok.most (andNot_zero.1 (ok.valIn _ (nth_mem hk)))]
  have hR : R.map (fun r => (List.range N).map fun w => pullL (nth r w) (List.range N)) = R := by
    refine nth_ext (by simp) fun k hk => ?_
    have hk : k < R.length := by simpa using hk
    rw [nth_mapN _ _ hk]
    have h2 := row_in ok hk
    exact row_nth ok.most h2.1 h2.2
  have hW := ok.worlds
  unfold arrM
  dsimp only at hW ⊢
  rw [hV, hR, hW]; simp
theorem arr_ok' {M : Mo} {N : Nat} {ws : List Nat} (ok : MoOk M N) (h1 : 1 ≤ ws.length) (h64 : ws.length ≤ 64) : MoOk (arrM M ws) ws.length where
  worlds := rfl
  one := h1
  most := h64
  rel := by simpa [arrM] using ok.rel
  val := by simpa [arrM] using ok.val
  row := fun r hr => by
    simp only [arrM, List.mem_map] at hr
    obtain ⟨r0, _, rfl⟩ := hr
    simp
  valIn := fun s hs => by
    simp only [arrM, List.mem_map] at hs
    obtain ⟨s0, _, rfl⟩ := hs
    exact andNot_zero.2 (pull_in _ h64)
  relIn := fun r hr s hs => by
    simp only [arrM, List.mem_map] at hr
    obtain ⟨r0, _, rfl⟩ := hr
    simp only [List.mem_map] at hs
    obtain ⟨w0, _, rfl⟩ := hs
    exact andNot_zero.2 (pull_in _ h64)
/-- A model of another's shape. -/
theorem reqErr_shape {M A : Mo} (hM : moCheck M = 0) (hA : moCheck A = 0) (hv : A.val.length = M.val.length) (hr : A.rel.length = M.rel.length) (g : List Nd) : reqErr A g = reqErr M g := by
  unfold reqErr
  rw [hM, hA, hv, hr]
theorem memL_pos {s : BitVec 64} (h : s ≠ 0#64) : 1 ≤ (memL s).length := by rw [memL_step h]; simp
theorem memL_lt {s : BitVec 64} {N : Nat} (hs : Sub s (allW N)) {i : Nat} (hi : i < (memL s).length) : nth (memL s) i < N := by
  have h := mem_memL.1 (nth_mem hi)
  have h2 := hs _ h.1 h.2
  rw [bt_allW] at h2; simp at h2; exact h2.2
theorem holds_in {M : Mo} {N : Nat} (ok : MoOk M N) (f : List Nd) : Sub (holdsOf M f) (allW N) := by
  unfold holdsOf
  split
  · exact semT_in ok _
  · exact fun k _ h => by rw [bt_zero] at h; cases h
/-! An announcement. -/
def upErr (M : Mo) (f : List Nd) : Int := if reqErr M f ≠ 0 then reqErr M f else if holdsOf M f = 0#64 then 11 else 0
def upM (M : Mo) (f : List Nd) : Mo := if upErr M f = 0 then arrM M (memL (holdsOf M f)) else ⟨0, [], []⟩
def upL (M : Mo) (f : List Nd) : List Nat := if upErr M f = 0 then memL (holdsOf M f) else []
theorem upErr_ok {M : Mo} {f : List Nd} (h : upErr M f = 0) : reqErr M f = 0 ∧ holdsOf M f ≠ 0#64 := by
  unfold upErr at h
  by_cases h1 : reqErr M f = 0
  · rw [if_neg (by simp [h1])] at h
    by_cases h2 : holdsOf M f = 0#64
    · rw [if_pos h2] at h; cases h
    · exact ⟨h1, h2⟩
  · rw [if_pos h1] at h; exact absurd h h1
theorem upErr_mk {M : Mo} {f : List Nd} (h : reqErr M f = 0) (h2 : holdsOf M f ≠ 0#64) : upErr M f = 0 := by
  unfold upErr; rw [if_neg (by simp [h]), if_neg h2]
theorem res_ok {M : Mo} {N : Nat} (ok : MoOk M N) {s : BitVec 64} (hs : Sub s (allW N)) (h0 : s ≠ 0#64) : resErr M s = 0 ∧ resM M s = arrM M (memL s) ∧ resL M s = natI (memL s) := by
  have h : resErr M s = 0 := by
    unfold resErr
    rw [if_neg (by simp [ok.check]), show M.worlds.toNat = N by rw [ok.worlds]; exact Int.toNat_natCast N, if_neg (by rw [andNot_zero.2 hs]; simp), if_neg h0]
  exact ⟨h, if_pos h, if_pos h⟩
theorem req_ok {M : Mo} {f : List Nd} (h : reqErr M f = 0) : ∃ N, MoOk M N := moCheck_ok (reqErr_ok h).1
/-- Update is restriction to the worlds where the formula holds. -/
theorem up_res {M : Mo} {f : List Nd} (h : upErr M f = 0) : resErr M (holdsOf M f) = upErr M f ∧ resM M (holdsOf M f) = upM M f ∧ resL M (holdsOf M f) = natI (upL M f) := by
  obtain ⟨h1, h2⟩ := upErr_ok h
  obtain ⟨N, ok⟩ := req_ok h1
  obtain ⟨r1, r2, r3⟩ := res_ok ok (holds_in ok f) h2
  refine ⟨by rw [r1, h], ?_, ?_⟩
  · rw [r2]; unfold upM; rw [if_pos h]
  · rw [r3]; unfold upL; rw [if_pos h]
theorem up_ok {M : Mo} {f : List Nd} (h : upErr M f = 0) : ∃ N, MoOk M N ∧ MoOk (upM M f) (upL M f).length ∧ upM M f = arrM M (upL M f) ∧ upL M f = memL (holdsOf M f) ∧ (∀ i, i < (upL M f).length → nth (upL M f) i < N) ∧ (upL M f).length ≤ N ∧ ∀ g, reqErr (upM M f) g = reqErr M g := by
  obtain ⟨h1, h2⟩ := upErr_ok h
  obtain ⟨N, ok⟩ := req_ok h1
  have e1 : upL M f = memL (holdsOf M f) := if_pos h
  have e2 : upM M f = arrM M (upL M f) := by rw [e1]; exact if_pos h
  have ok2 : MoOk (upM M f) (upL M f).length := by rw [e2]; exact arr_ok' ok (by rw [e1]; exact memL_pos h2) (by rw [e1]; exact memL_len _)
  have hlt : ∀ i, i < (upL M f).length → nth (upL M f) i < N := fun i hi => by
    rw [e1] at hi ⊢; exact memL_lt (holds_in ok f) hi
  refine ⟨N, ok, ok2, e2, e1, hlt, ?_, fun g => reqErr_shape ok.check ok2.check (by rw [e2]; simp [arrM]) (by rw [e2]; simp [arrM]) g⟩
  have := nodup_sub_len (L := upL M f) (M := List.range N) (by rw [e1]; exact List.nodup_range.filter _) (fun x hx => by
    obtain ⟨i, hi, rfl⟩ := mem_nth hx
    exact List.mem_range.2 (hlt i hi))
  simpa using this
/-- All worlds are left just if the formula holds in all. -/
theorem up_all {M : Mo} {N : Nat} (ok : MoOk M N) {f : List Nd} (h : upErr M f = 0) : (upL M f).length = N ↔ holdsOf M f = allW N := by
  have e1 : upL M f = memL (holdsOf M f) := if_pos h
  rw [e1]
  constructor
  · intro e
    refine Sub.antisymm (holds_in ok f) fun k hk hb => ?_
    have hkN : k < N := by rw [bt_allW] at hb; simp at hb; exact hb.2
    cases hc : bt (holdsOf M f) k
    · exfalso
      have := nodup_sub_len (L := k :: memL (holdsOf M f)) (M := List.range N) (List.nodup_cons.2 ⟨fun hm => (by have := (mem_memL.1 hm).2; rw [hc] at this; cases this), List.nodup_range.filter _⟩) (fun x hx => by
        rcases List.mem_cons.1 hx with rfl | hx
        · exact List.mem_range.2 hkN
        · obtain ⟨i, hi, rfl⟩ := mem_nth hx
          exact List.mem_range.2 (memL_lt (holds_in ok f) hi))
      simp at this; omega
    · rfl
  · intro e
    rw [e, memL_allW ok.most]; simp
/-- The worlds of the first model that worlds of the last one were. -/
def thr (ws at_ : List Nat) : List Nat := at_.map (nth ws)
theorem thr_len (ws l : List Nat) : (thr ws l).length = l.length := by simp [thr]
theorem thr_range {N : Nat} {l : List Nat} (h : ∀ i, i < l.length → nth l i < N) : thr (List.range N) l = l := by
  refine nth_ext (thr_len _ _) fun k hk => ?_
  have hk : k < l.length := by rw [thr_len] at hk; exact hk
  unfold thr
  rw [nth_mapN _ _ hk, nth_range (h k hk)]
/-! A sequence of announcements. -/
def seqR (A : Mo) (ws : List Nat) : List (List Nd) → Nat → Mo × List Nat × Nat × Int
  | [], i => (A, ws, i, 0)
  | f :: l, i => if upErr A f ≠ 0 then (⟨0, [], []⟩, [], i, upErr A f) else seqR (upM A f) (thr ws (upL A f)) l (i + 1)
def seqOf (M : Mo) (l : List (List Nd)) : Mo × List Nat × Nat × Int :=
  if moCheck M ≠ 0 then (⟨0, [], []⟩, [], 0, moCheck M) else seqR M (List.range M.worlds.toNat) l 0
theorem drop_nth {α : Type} [Inhabited α] {l : List α} {k : Nat} (h : k < l.length) : l.drop k = nth l k :: l.drop (k + 1) := by
  rw [nth_eq _ _ h]; exact List.drop_eq_getElem_cons h
/-! Repetition. -/
def repR (f : List Nd) : Nat → Mo → List Nat → Nat → Mo × List Nat × Nat
  | 0, A, ws, n => (A, ws, n)
  | k + 1, A, ws, n => if holdsOf A f = 0#64 ∨ holdsOf A f = allW A.worlds.toNat then (A, ws, n) else repR f k (upM A f) (thr ws (upL A f)) (n + 1)
def repOf (M : Mo) (f : List Nd) : Mo × List Nat × Nat := if reqErr M f ≠ 0 then (⟨0, [], []⟩, [], 0) else repR f M.worlds.toNat M (List.range M.worlds.toNat) 0
/-! Whether. -/
def whRow (s : BitVec 64) (r : List (BitVec 64)) : List (BitVec 64) := (List.range r.length).map fun w => if bt s w then nth r w &&& s else nth r w &&& ~~~ s
def whM (M : Mo) (f : List Nd) : Mo := if reqErr M f ≠ 0 then ⟨0, [], []⟩ else ⟨M.worlds, M.val, M.rel.map (whRow (holdsOf M f))⟩
/-! At a world. -/
def posI (l : List Nat) (x : Int) : Int := match l.findIdx? (fun n : Nat => (n : Int) == x) with | some i => (i : Int) | none => -1
def afErr (M : Mo) (x : Int) (f : List Nd) : Int := if atErr M x f ≠ 0 then atErr M x f else if atOf M x f then 0 else 11
def sucOf (M : Mo) (x : Int) (f : List Nd) : Bool := if afErr M x f ≠ 0 then false else bt (holdsOf (upM M f) f) (posI (upL M f) x).toNat
theorem afErr_ok {M : Mo} {x : Int} {f : List Nd} (h : afErr M x f = 0) : upErr M f = 0 ∧ ∃ k p : Nat, x = (k : Int) ∧ bt (holdsOf M f) k = true ∧ posI (upL M f) x = (p : Int) ∧ p < (upL M f).length ∧ nth (upL M f) p = k := by
  unfold afErr at h
  by_cases h1 : atErr M x f = 0
  · rw [if_neg (by simp [h1])] at h
    by_cases h2 : atOf M x f = true
    · have h3 : reqErr M f = 0 := by
        unfold atErr at h1
        by_cases h4 : reqErr M f = 0
        · exact h4
        · rw [if_pos h4] at h1; exact absurd h1 h4
      have hx : inMo M x = true := by
        unfold atErr at h1
        rw [if_neg (by simp [h3])] at h1
        cases hc : inMo M x
        · rw [hc] at h1; cases h1
        · rfl
      unfold atOf at h2
      rw [Bool.and_eq_true] at h2
      have hx0 : 0 ≤ x := by unfold inMo at hx; simp at hx; omega
      obtain ⟨k, rfl⟩ := Int.eq_ofNat_of_zero_le hx0
      have hb : bt (holdsOf M f) k = true := by simpa using h2.2
      have hne : holdsOf M f ≠ 0#64 := fun e => by rw [e, bt_zero] at hb; cases hb
      have hu := upErr_mk h3 hne
      have e1 : upL M f = memL (holdsOf M f) := if_pos hu
      have hm : k ∈ upL M f := by rw [e1]; exact mem_memL.2 ⟨bt_lt64 hb, hb⟩
      refine ⟨hu, k, ?_⟩
      obtain ⟨i, hi⟩ : ∃ i, (upL M f).findIdx? (fun n : Nat => (n : Int) == (k : Int)) = some i := by
        rw [← Option.isSome_iff_exists, List.findIdx?_isSome]
        exact List.any_eq_true.2 ⟨k, hm, by simp⟩
      have h5 := List.findIdx?_eq_some_iff_getElem.1 hi
      obtain ⟨h6, h7, _⟩ := h5
      refine ⟨i, rfl, hb, ?_, h6, ?_⟩
      · unfold posI; rw [hi]
      · rw [nth_eq _ _ h6]
        have : ((upL M f)[i] : Int) = k := by simpa using h7
        omega
    · rw [if_neg h2] at h; cases h
  · rw [if_pos h1] at h; exact absurd h h1
/-! Change. -/
def knw (M : Mo) (x a : Nat) (g : List Nd) : Bool := nth (nth M.rel a) x &&& ~~~ holdsOf M g == 0#64
def chgR (M B : Mo) (x p a : Nat) : List (List Nd) → Nat → List Nat → List Nat → List Nat × List Nat × Int
  | [], _, le, lo => (le, lo, 0)
  | g :: l, i, le, lo => if reqErr M g ≠ 0 then ([], [], reqErr M g) else
    chgR M B x p a l (i + 1) (if knw B p a g && !knw M x a g then le ++ [i] else le) (if knw M x a g && !knw B p a g then lo ++ [i] else lo)
def chgOf (M : Mo) (x : Int) (f : List Nd) (a : Int) (l : List (List Nd)) : List Nat × List Nat × Int :=
  if afErr M x f ≠ 0 then ([], [], afErr M x f) else if a < 0 ∨ (M.rel.length : Int) ≤ a then ([], [], 2) else chgR M (upM M f) x.toNat (posI (upL M f) x).toNat a.toNat l 0 [] []
end Wt

/- Plain laws of announcements: propositional formulas keep their sets; a part of a part of a model. -/
namespace Wt
open Go Go.RowKit Go.Proofs Fm

/-- No operator of the tree names an agent. -/
def propT : Fm → Prop
  | .leaf o _ _ _ => o ≤ 8
  | .un o _ _ _ x => o ≤ 8 ∧ propT x
  | .bin o _ _ _ x y => o ≤ 8 ∧ propT x ∧ propT y
section
variable {M : Mo} {N : Nat} {ws : List Nat} (ok : MoOk M N) (hl : ws.length ≤ 64) (hlt : ∀ i, i < ws.length → nth ws i < N)
include ok hl hlt
theorem valN_prop {o : Int} (i g : Int) (ho : o ≤ 8) {x' x y' y : BitVec 64} (hx : Agr ws x' x) (hy : Agr ws y' y) : AgrP ws (valN (arrM M ws) o i g x' y') (valN M o i g x y) := by
  have hA : (arrM M ws).worlds.toNat = ws.length := by simp [arrM]
  have hM : M.worlds.toNat = N := by rw [ok.worlds]; exact Int.toNat_natCast N
  have hv : (arrM M ws).val.length = M.val.length := by simp [arrM]
  have all := all_agr ok.most hl hlt
  have nt : ∀ {a' a : BitVec 64}, Agr ws a' a → Agr ws (allW ws.length &&& ~~~ a') (allW N &&& ~~~ a) := fun ha => not_agr ok.most hl hlt ha
  unfold valN
  rw [hA, hM, hv]
  refine agrP_ite (fun _ => ⟨rfl, all⟩) fun _ => agrP_ite (fun _ => zero_agrP ws true) fun _ => agrP_ite (fun _ => agrP_ite (fun _ => zero_agrP ws false) fun hi => ⟨rfl, ?_⟩) fun _ => agrP_ite (fun _ => ⟨rfl, nt hx⟩) fun _ => agrP_ite (fun _ => ⟨rfl, and_agr hx hy⟩) fun _ => agrP_ite (fun _ => ⟨rfl, or_agr hx hy⟩) fun _ => agrP_ite (fun _ => ⟨rfl, or_agr (nt hx) hy⟩) fun _ => agrP_ite (fun _ => ⟨rfl, nt (xor_agr hx hy)⟩) fun _ => ?_
  · show Agr ws (nth (arrM M ws).val i.toNat) (nth M.val i.toNat)
    by_cases hk : i.toNat < M.val.length
    · have e : nth (arrM M ws).val i.toNat = pullL (nth M.val i.toNat) ws := nth_mapN _ _ hk
      rw [e]; exact pull_agr hl _
    · rw [nth_out (by rw [hv]; omega), nth_out (by omega)]; exact zero_agr ws
  · rw [if_neg (by omega), if_neg (by omega), if_neg (by omega), if_neg (by omega), if_neg (by omega), if_neg (by omega), if_neg (by omega), if_neg (by omega), if_neg (by omega), if_neg (by omega)]
    exact zero_agrP ws false
theorem sem_prop : ∀ t, propT t → AgrP ws (semT (arrM M ws) t) (semT M t)
  | .leaf o i e g, h => valN_prop ok hl hlt i g h (zero_agr ws) (zero_agr ws)
  | .un o i e g x, h => by
    have ih := sem_prop x h.2
    unfold semT
    rw [ih.1]
    exact agrP_ite (fun _ => valN_prop ok hl hlt i g h.1 ih.2 (zero_agr ws)) fun _ => zero_agrP ws false
  | .bin o i e g x y, h => by
    have ih := sem_prop x h.2.1
    have ih2 := sem_prop y h.2.2
    unfold semT
    rw [ih.1, ih2.1]
    exact agrP_ite (fun _ => valN_prop ok hl hlt i g h.1 ih.2 ih2.2) fun _ => zero_agrP ws false
end
theorem unionL_mem (m : Nd → Nat) : ∀ (l : List Nd) (a : Nat), l.foldl (fun a n => a ||| m n) a = 0 → a = 0 ∧ ∀ n ∈ l, m n = 0
  | [], a, h => ⟨h, fun _ hn => absurd hn (by simp)⟩
  | x :: l, a, h => by
    obtain ⟨h1, h2⟩ := unionL_mem m l _ h
    obtain ⟨h3, h4⟩ := Nat.or_eq_zero_iff.1 h1
    exact ⟨h3, fun n hn => by
      rcases List.mem_cons.1 hn with rfl | hn
      · exact h4
      · exact h2 n hn⟩
theorem frag_prop {o : Int} (h : (useOf o).2 = true) (h2 : (useOf o).1.frag.toNat = 0) : o ≤ 8 := by
  rcases useOf_cases o h with rfl | rfl | rfl | rfl | rfl | rfl | rfl | rfl | rfl | rfl | rfl | rfl | rfl | rfl | rfl | rfl | rfl | rfl | rfl | rfl | rfl <;> revert h2 <;> decide
theorem prop_of {t : Fm} (hk : fok t) (h : ∀ s, sbt s t → (useOf (match s with | .leaf o _ _ _ => o | .un o _ _ _ _ => o | .bin o _ _ _ _ _ => o)).1.frag.toNat = 0) : propT t := by
  induction t with
  | leaf o i e g => exact frag_prop hk.1 (h _ (sbt_refl _))
  | un o i e g x ih => exact ⟨frag_prop hk.1 (h _ (sbt_refl _)), ih hk.2.2.2.2.2 (fun s hs => h s (by simp only [sbt]; exact .inr hs))⟩
  | bin o i e g x y ih1 ih2 => exact ⟨frag_prop hk.1 (h _ (sbt_refl _)), ih1 hk.2.2.2.2.1 (fun s hs => h s (by simp only [sbt]; exact .inr (.inl hs))), ih2 hk.2.2.2.2.2 (fun s hs => h s (by simp only [sbt]; exact .inr (.inr hs)))⟩
/-- A right formula without fragments is propositional. -/
theorem prop_frags {f : List Nd} (h : fCheck f = 0) (h2 : fFrags f = 0) : propT (rt f) := by
  have hF := IsF.of h
  have hc := hF.compact
  have hm := (unionL_mem fragN _ 0 h2).2
  rw [hc] at hm
  refine prop_of hF.fk fun s hs => ?_
  have hs2 := sbt_mem hs
  obtain ⟨k, hk, rfl⟩ := mem_nth hs2
  have hcl : (canon (rt f)).length = (addT (rt f) []).length := canon_length _
  have := hm (nth (canon (rt f)) k) (nth_mem (by omega))
  have e : nth (canon (rt f)) k = ndOf (addT (rt f) []) (nth (addT (rt f) []) k) := by
    show nth (encL _) k = _
    unfold encL
    exact nth_mapN _ _ hk
  rw [e] at this
  unfold fragN at this
  cases hn : nth (addT (rt f) []) k <;> rw [hn] at this <;> exact this
/-- A part of a part. -/
theorem pull_pull (s : BitVec 64) {ws vs : List Nat} (h1 : ws.length ≤ 64) (h2 : vs.length ≤ 64) (hv : ∀ i, i < vs.length → nth vs i < ws.length) : pullL (pullL s ws) vs = pullL s (thr ws vs) := bt_ext fun k hk => by
  rw [bt_pullL (pullL s ws) vs h2, bt_pullL s (thr ws vs) (by rw [thr_len]; exact h2), thr_len]
  by_cases hkv : k < vs.length
  · rw [bt_pullL _ _ h1, show nth (thr ws vs) k = nth ws (nth vs k) from nth_mapN _ _ hkv]
    simp [hv k hkv]
  · simp [hkv]
theorem arr_arr {M : Mo} {ws vs : List Nat} (h1 : ws.length ≤ 64) (h2 : vs.length ≤ 64) (hv : ∀ i, i < vs.length → nth vs i < ws.length) : arrM (arrM M ws) vs = arrM M (thr ws vs) := by
  unfold arrM
  simp only [List.map_map, thr_len, Mo.mk.injEq, true_and]
  refine ⟨List.map_congr_left fun s _ => pull_pull s h1 h2 hv, List.map_congr_left fun r _ => ?_⟩
  simp only [Function.comp]
  refine nth_ext (by simp [thr_len]) fun k hk => ?_
  have hk : k < vs.length := by simpa using hk
  rw [nth_mapN _ _ hk, nth_mapN _ _ (hv k hk), nth_mapN _ _ (by rw [thr_len]; exact hk), pull_pull _ h1 h2 hv, show nth (thr ws vs) k = nth ws (nth vs k) from nth_mapN _ _ hk]
/-- The members of a set are an ascending list. -/
theorem memL_asc (s : BitVec 64) : (memL s).Pairwise (· < ·) := List.Pairwise.filter _ (List.pairwise_lt_range (n := 64))
theorem asc_eq : ∀ {l m : List Nat}, l.Pairwise (· < ·) → m.Pairwise (· < ·) → (∀ x, x ∈ l ↔ x ∈ m) → l = m
  | [], [], _, _, _ => rfl
  | [], b :: m, _, _, h => absurd ((h b).2 (by simp)) (by simp)
  | a :: l, [], _, _, h => absurd ((h a).1 (by simp)) (by simp)
  | a :: l, b :: m, hl, hm, h => by
    obtain ⟨h1, h2⟩ := List.pairwise_cons.1 hl
    obtain ⟨h3, h4⟩ := List.pairwise_cons.1 hm
    have e : a = b := by
      rcases List.mem_cons.1 ((h a).1 (by simp)) with r | r
      · exact r
      · rcases List.mem_cons.1 ((h b).2 (by simp)) with r2 | r2
        · exact r2.symm
        · have := h3 a r; have := h1 b r2; omega
    subst e
    congr 1
    refine asc_eq h2 h4 fun x => ?_
    constructor
    · intro hx
      rcases List.mem_cons.1 ((h x).1 (List.mem_cons_of_mem _ hx)) with r | r
      · have := h1 x hx; omega
      · exact r
    · intro hx
      rcases List.mem_cons.1 ((h x).2 (List.mem_cons_of_mem _ hx)) with r | r
      · have := h3 x hx; omega
      · exact r
/-- The members of a set are the worlds that a part's members were. -/
theorem memL_thr {s t u : BitVec 64} (ht : Sub t (allW (memL s).length)) (hu : ∀ i, bt u i = true ↔ ∃ k, k < (memL s).length ∧ bt t k = true ∧ nth (memL s) k = i) : memL u = thr (memL s) (memL t) := by
  refine asc_eq (memL_asc u) ?_ fun x => ?_
  · unfold thr
    rw [List.pairwise_map]
    refine List.Pairwise.imp_of_mem ?_ (memL_asc t)
    intro a b ha hb hab
    have hbl : b < (memL s).length := by
      have h := mem_memL.1 hb
      have h2 := ht _ h.1 h.2
      rw [bt_allW] at h2; simp at h2; exact h2.2
    have := List.pairwise_iff_getElem.1 (memL_asc s) a b (by omega) hbl hab
    rw [nth_eq _ _ (by omega), nth_eq _ _ hbl]; exact this
  · unfold thr
    rw [mem_memL, List.mem_map]
    constructor
    · rintro ⟨_, hb⟩
      obtain ⟨k, hk, hb2, rfl⟩ := (hu x).1 hb
      exact ⟨k, mem_memL.2 ⟨bt_lt64 hb2, hb2⟩, rfl⟩
    · rintro ⟨k, hk, rfl⟩
      obtain ⟨hk1, hk2⟩ := mem_memL.1 hk
      have h2 := ht _ hk1 hk2
      rw [bt_allW] at h2; simp at h2
      have hb : bt u (nth (memL s) k) = true := (hu _).2 ⟨k, h2.2, hk2, rfl⟩
      exact ⟨bt_lt64 hb, hb⟩
end Wt

/- Plain laws of observations: truth tables, the cells of who observes formulas. -/
namespace Wt
open Go Go.RowKit Go.Proofs Fm

/-- The value of a propositional operator. -/
def pvN (e : Nat → Bool) (o i : Int) (x y : Bool) : Bool :=
  if o = 1 then true else if o = 3 then e i.toNat else if o = 4 then !x else if o = 5 then x && y else if o = 6 then x || y else if o = 7 then !x || y else if o = 8 then x == y else false
/-- The value of a propositional tree. -/
def pv (e : Nat → Bool) : Fm → Bool
  | .leaf o i _ _ => pvN e o i false false
  | .un o i _ _ x => pvN e o i (pv e x) false
  | .bin o i _ _ x y => pvN e o i (pv e x) (pv e y)
theorem pvN_leaf (e : Nat → Bool) {o : Int} (i : Int) (h : o < 4) (x y x' y' : Bool) : pvN e o i x y = pvN e o i x' y' := by
  unfold pvN; repeat (first | (split; · rfl) | rw [if_neg (by omega)])
theorem pvN_un (e : Nat → Bool) {o : Int} (i : Int) (h : o < 5) (x y y' : Bool) : pvN e o i x y = pvN e o i x y' := by
  unfold pvN; repeat (first | (split; · rfl) | rw [if_neg (by omega)])
theorem pv_node (e : Nat → Bool) {f : List Nd} (hw : Wf f) {k : Nat} (hk : k < f.length) (ho : (nth f k).op ≤ 8) (x y : Bool)
    (hx : 4 ≤ (nth f k).op → x = pv e (trAt f (nth f k).x.toNat)) (hy : 5 ≤ (nth f k).op → y = pv e (trAt f (nth f k).y.toNat)) : pv e (trAt f k) = pvN e (nth f k).op (nth f k).i x y := by
  have h1 := useOf_cases _ (nodeErr_ok (hw k hk)).1
  by_cases h4 : (nth f k).op < 4
  · have hu : (useOf (nth f k).op).1.x = false := by
      rcases (show (nth f k).op = 1 ∨ (nth f k).op = 2 ∨ (nth f k).op = 3 by omega) with e | e | e <;> rw [e] <;> rfl
    rw [trAt_leaf hk hu]
    exact pvN_leaf e _ h4 _ _ _ _
  · rw [hx (by omega)]
    by_cases h5 : (nth f k).op < 5
    · have e4 : (nth f k).op = 4 := by omega
      rw [trAt_un hw hk (by rw [e4]; rfl) (by rw [e4]; rfl)]
      exact pvN_un e _ h5 _ _ _
    · rw [hy (by omega)]
      have hu : (useOf (nth f k).op).1.y = true := by
        rcases (show (nth f k).op = 5 ∨ (nth f k).op = 6 ∨ (nth f k).op = 7 ∨ (nth f k).op = 8 by omega) with e | e | e | e <;> rw [e] <;> rfl
      rw [trAt_bin hw hk hu]
      rfl
/-- The set of the numbers below n with a property. -/
def setTo (p : Nat → Bool) : Nat → BitVec 64
  | 0 => 0#64
  | k + 1 => if p k then setTo p k ||| 1#64 <<< k else setTo p k
theorem bt_setTo (p : Nat → Bool) {k : Nat} (hk : k < 64) : ∀ n, bt (setTo p n) k = (decide (k < n) && p k)
  | 0 => by simp [setTo, bt_zero]
  | n + 1 => by
    unfold setTo
    by_cases h : p n = true
    · rw [if_pos h, bt_or, bt_setTo p hk n, bt_shl1]
      by_cases hkn : k = n
      · subst hkn; simp [hk, h]
      · have e : decide (k < n + 1) = decide (k < n) := by congr 1; exact propext ⟨fun _ => by omega, fun _ => by omega⟩
        rw [e]; simp [hk, hkn]
    · rw [if_neg h, bt_setTo p hk n]
      by_cases hkn : k = n
      · subst hkn; simp [h]
      · have e : decide (k < n + 1) = decide (k < n) := by congr 1; exact propext ⟨fun _ => by omega, fun _ => by omega⟩
        rw [e]
theorem setTo_congr {p q : Nat → Bool} {n : Nat} (h : ∀ k, k < n → p k = q k) : setTo p n = setTo q n := by
  induction n with
  | zero => rfl
  | succ n ih => unfold setTo; rw [ih fun k hk => h k (by omega), h n (by omega)]
/-- What is wrong with a truth table of n facts. -/
def tabErr (f : List Nd) (n : Int) : Int :=
  if fCheck f ≠ 0 then fCheck f else if fFrags f ≠ 0 then 10 else if n < 0 ∨ 6 < n ∨ fFits f 0 n.toNat = false then 2 else 0
/-- The truth table of n facts. -/
def tabOf (f : List Nd) (n : Int) : BitVec 64 := if tabErr f n = 0 then setTo (fun v => pv v.testBit (rt f)) (2 ^ n.toNat) else 0#64
theorem tabErr_ok {f : List Nd} {n : Int} (h : tabErr f n = 0) : fCheck f = 0 ∧ fFrags f = 0 ∧ 0 ≤ n ∧ n ≤ 6 ∧ fFits f 0 n.toNat = true := by
  unfold tabErr at h
  by_cases h1 : fCheck f = 0
  · rw [if_neg (by simp [h1])] at h
    by_cases h2 : fFrags f = 0
    · rw [if_neg (by simp [h2])] at h
      by_cases h3 : n < 0 ∨ 6 < n ∨ fFits f 0 n.toNat = false
      · rw [if_pos h3] at h; omega
      · refine ⟨h1, h2, by omega, by omega, ?_⟩
        cases h4 : fFits f 0 n.toNat
        · exact absurd (.inr (.inr h4)) h3
        · rfl
    · rw [if_pos h2] at h; omega
  · rw [if_pos h1] at h; exact absurd h h1
theorem tab_eq {f : List Nd} {n : Int} (h : tabErr f n = 0) : tabOf f n = setTo (fun v => pv v.testBit (rt f)) (2 ^ n.toNat) := if_pos h
theorem pow6 {n : Nat} (h : n ≤ 6) : 2 ^ n ≤ 64 := by
  have : 2 ^ n ≤ 2 ^ 6 := Nat.pow_le_pow_right (by decide) h
  omega
/-- The nodes of the short list of a propositional formula. -/
theorem prop_ops {f : List Nd} (h2 : fFrags f = 0) : ∀ n ∈ fCompact f, 1 ≤ n.op ∧ n.op ≤ 8 := fun n hn => by
  have h3 := (unionL_mem fragN _ 0 h2).2 n hn
  have h1 := ((fCompact_ok f).1 n hn).1
  have h4 := useOf_cases _ h1
  exact ⟨by omega, frag_prop h1 h3⟩
theorem unionL_zero (m : Nd → Nat) : ∀ (l : List Nd), (∀ n ∈ l, m n = 0) → l.foldl (fun a n => a ||| m n) 0 = 0
  | [], _ => rfl
  | x :: l, h => by
    show l.foldl _ (0 ||| m x) = 0
    rw [h x (by simp)]
    exact unionL_zero m l fun n hn => h n (by simp [hn])
theorem prop_frag {o : Int} (h : (useOf o).2 = true) (h2 : o ≤ 8) : (useOf o).1.frag.toNat = 0 ∧ (useOf o).1.agent = false ∧ (useOf o).1.group = false := by
  rcases useOf_cases o h with rfl | rfl | rfl | rfl | rfl | rfl | rfl | rfl | rfl | rfl | rfl | rfl | rfl | rfl | rfl | rfl | rfl | rfl | rfl | rfl | rfl <;> revert h2 <;> decide
theorem frags_of_ops {f : List Nd} (h : ∀ n ∈ fCompact f, n.op ≤ 8) : fFrags f = 0 := unionL_zero _ _ fun n hn => (prop_frag ((fCompact_ok f).1 n hn).1 (h n hn)).1
theorem agents_none {f : List Nd} (h2 : fFrags f = 0) : fAgents f = 0 := unionL_zero _ _ fun n hn => by
  have h3 := (fCompact_ok f).1 n hn
  obtain ⟨-, e1, e2⟩ := prop_frag h3.1 (prop_ops h2 n hn).2
  unfold agentN
  rw [e1, if_neg (by simp)]
  rw [h3.nogroup e2]; rfl
theorem below_zero (n : Nat) : below 0 n = true := by unfold below; simp
theorem fits_prop {f : List Nd} (h1 : fCheck f = 0) (h2 : fFrags f = 0) {n : Nat} (hn : n ≤ 6) : fFits f 0 n = (fFacts f >>> n == 0) := by
  unfold fFits
  rw [h1, agents_none h2, below_zero]
  unfold below
  rw [decide_eq_false (show ¬ 31 ≤ n by omega)]; simp
/-- A propositional formula's set holds the worlds at whose valuations it is true. -/
theorem sem_pv {M : Mo} {N : Nat} (ok : MoOk M N) : ∀ t, propT t → (semT M t).2 = true → ∀ k, k < N → bt (semT M t).1 k = pv (fun i => bt (nth M.val i) k) t := by
  have hNt : M.worlds.toNat = N := by rw [ok.worlds]; exact Int.toNat_natCast N
  have h64 := ok.most
  have key : ∀ (o i g : Int) (x y : BitVec 64) (bx by' : Bool) (k : Nat), o ≤ 8 → k < N → bt x k = bx → bt y k = by' → (valN M o i g x y).2 = true → bt (valN M o i g x y).1 k = pvN (fun i => bt (nth M.val i) k) o i bx by' := by
    intro o i g x y bx by' k ho hk hx hy h
    subst hx hy
    have hk64 : k < 64 := by omega
    unfold valN pvN at *
    rw [hNt] at *
    by_cases e1 : o = 1
    · simp only [e1, if_true]; rw [bt_allW]; simp [hk64, hk]
    by_cases e2 : o = 2
    · subst e2; simp [bt_zero]
    by_cases e3 : o = 3
    · subst e3
      simp at h ⊢
      by_cases hi : (M.val.length : Int) ≤ i
      · rw [if_pos hi] at h; cases h
      · rw [if_neg hi]
    by_cases e4 : o = 4
    · subst e4; simp [bt_and, bt_not, bt_allW, hk64, hk]
    by_cases e5 : o = 5
    · subst e5; simp [bt_and]
    by_cases e6 : o = 6
    · subst e6; simp [bt_or]
    by_cases e7 : o = 7
    · subst e7; simp [bt_or, bt_and, bt_not, bt_allW, hk64, hk]
    by_cases e8 : o = 8
    · subst e8; simp [bt_xor, bt_and, bt_not, bt_allW, hk64, hk]; cases bt x k <;> cases bt y k <;> rfl
    exfalso
    rw [if_neg e1, if_neg e2, if_neg e3, if_neg e4, if_neg e5, if_neg e6, if_neg e7, if_neg e8] at h
    rw [if_neg (by omega), if_neg (by omega), if_neg (by omega), if_neg (by omega), if_neg (by omega)] at h
    cases h
  intro t
  induction t with
  | leaf o i e g => intro hp h k hk; exact key o i g _ _ _ _ k hp hk (bt_zero k) (bt_zero k) h
  | un o i e g x ih =>
    intro hp h k hk
    simp only [semT] at h ⊢
    by_cases hx : (semT M x).2 = true
    · rw [if_pos hx] at h ⊢
      exact key o i g _ _ _ _ k hp.1 hk (ih hp.2 hx k hk) (bt_zero k) h
    · rw [if_neg hx] at h; cases h
  | bin o i e g x y ih1 ih2 =>
    intro hp h k hk
    simp only [semT] at h ⊢
    by_cases hx : ((semT M x).2 && (semT M y).2) = true
    · rw [if_pos hx] at h ⊢
      rw [Bool.and_eq_true] at hx
      exact key o i g _ _ _ _ k hp.1 hk (ih1 hp.2.1 hx.1 k hk) (ih2 hp.2.2 hx.2 k hk) h
    · rw [if_neg hx] at h; cases h
end Wt

/- Plain: classes of worlds that lie in the same sets: lowest worlds, their list, the class of a world. -/
namespace Wt
open Go Go.RowKit Go.Proofs Fm

/-- Two worlds lie in the same sets. -/
def agr (L : List (BitVec 64)) (v w : Nat) : Bool := L.all fun s => bt s v == bt s w
section
variable {L : List (BitVec 64)} {u v w N : Nat}
theorem agr_iff : agr L v w = true ↔ ∀ s ∈ L, bt s v = bt s w := by simp [agr]
theorem agr_refl (L : List (BitVec 64)) (w : Nat) : agr L w w = true := agr_iff.2 fun _ _ => rfl
theorem agr_symm (h : agr L v w = true) : agr L w v = true := agr_iff.2 fun s hs => (agr_iff.1 h s hs).symm
theorem agr_trans (h : agr L u v = true) (k : agr L v w = true) : agr L u w = true := agr_iff.2 fun s hs => (agr_iff.1 h s hs).trans (agr_iff.1 k s hs)
/-- The lowest world among w and the k ahead of it that agrees with w. -/
def lowDn (L : List (BitVec 64)) (w : Nat) : Nat → Nat
  | 0 => w
  | k + 1 => if agr L (w - (k + 1)) w then w - (k + 1) else lowDn L w k
theorem lowDn_spec (L : List (BitVec 64)) (w : Nat) : ∀ k, k ≤ w → w - k ≤ lowDn L w k ∧ lowDn L w k ≤ w ∧ agr L (lowDn L w k) w = true ∧ ∀ v, w - k ≤ v → v < lowDn L w k → agr L v w = false
  | 0, _ => ⟨Nat.le_refl _, Nat.le_refl _, agr_refl L w, fun v h1 h2 => by simp only [lowDn] at h2; omega⟩
  | k + 1, hk => by
    obtain ⟨h1, h2, h3, h4⟩ := lowDn_spec L w k (by omega)
    unfold lowDn
    by_cases h : agr L (w - (k + 1)) w = true
    · rw [if_pos h]
      exact ⟨Nat.le_refl _, by omega, h, fun v _ _ => by omega⟩
    · rw [if_neg h]
      refine ⟨by omega, h2, h3, fun v h5 h6 => ?_⟩
      by_cases e : v = w - (k + 1)
      · subst e; simpa using h
      · exact h4 v (by omega) h6
/-- The lowest world of a world's class. -/
def lowOf (L : List (BitVec 64)) (w : Nat) : Nat := lowDn L w w
theorem lowOf_le (L : List (BitVec 64)) (w : Nat) : lowOf L w ≤ w := (lowDn_spec L w w (Nat.le_refl _)).2.1
theorem lowOf_agr (L : List (BitVec 64)) (w : Nat) : agr L (lowOf L w) w = true := (lowDn_spec L w w (Nat.le_refl _)).2.2.1
theorem lowOf_min (h : agr L v w = true) : lowOf L w ≤ v := by
  rcases Nat.lt_or_ge v (lowOf L w) with h2 | h2
  · have := (lowDn_spec L w w (Nat.le_refl _)).2.2.2 v (by omega) h2
    rw [h] at this; cases this
  · exact h2
theorem lowOf_eq (h : agr L v w = true) : lowOf L v = lowOf L w :=
  Nat.le_antisymm (lowOf_min (agr_trans (lowOf_agr L w) (agr_symm h))) (lowOf_min (agr_trans (lowOf_agr L v) h))
theorem lowOf_iff : lowOf L v = lowOf L w ↔ agr L v w = true :=
  ⟨fun e => agr_trans (agr_symm (lowOf_agr L v)) (by rw [e]; exact lowOf_agr L w), lowOf_eq⟩
theorem lowOf_idem (L : List (BitVec 64)) (w : Nat) : lowOf L (lowOf L w) = lowOf L w := lowOf_eq (lowOf_agr L w)
/-- The classes of all worlds. -/
def lowL (L : List (BitVec 64)) (N : Nat) : List Nat := (List.range N).map (lowOf L)
theorem lowL_len (L : List (BitVec 64)) (N : Nat) : (lowL L N).length = N := by simp [lowL]
theorem lowL_nth (L : List (BitVec 64)) (h : w < N) : nth (lowL L N) w = lowOf L w := by
  rw [nth_eq _ _ (by rw [lowL_len]; exact h)]; simp [lowL]
/-- The lowest worlds of the classes, in order. -/
def repL (L : List (BitVec 64)) (N : Nat) : List Nat := (List.range N).filter fun w => lowOf L w == w
theorem repL_mem : v ∈ repL L N ↔ v < N ∧ lowOf L v = v := by simp [repL]
theorem repL_low (L : List (BitVec 64)) (h : w < N) : lowOf L w ∈ repL L N := repL_mem.2 ⟨Nat.lt_of_le_of_lt (lowOf_le L w) h, lowOf_idem L w⟩
theorem repL_pair (L : List (BitVec 64)) (N : Nat) : (repL L N).Pairwise (· < ·) := List.Pairwise.filter _ List.pairwise_lt_range
theorem repL_nodup (L : List (BitVec 64)) (N : Nat) : (repL L N).Nodup := (repL_pair L N).imp fun h => Nat.ne_of_lt h
theorem repL_len (L : List (BitVec 64)) (N : Nat) : (repL L N).length ≤ N := by
  have := List.length_filter_le (fun w => lowOf L w == w) (List.range N)
  unfold repL; simpa using this
/-- The class of a world, as a number. -/
def clsOf (L : List (BitVec 64)) (N w : Nat) : Nat := (repL L N).idxOf (lowOf L w)
theorem clsOf_lt (L : List (BitVec 64)) (h : w < N) : clsOf L N w < (repL L N).length := List.idxOf_lt_length_of_mem (repL_low L h)
theorem clsOf_nth (L : List (BitVec 64)) (h : w < N) : nth (repL L N) (clsOf L N w) = lowOf L w := by
  rw [nth_eq _ _ (clsOf_lt L h)]; exact List.getElem_idxOf (clsOf_lt L h)
theorem rep_mem {c : Nat} (h : c < (repL L N).length) : nth (repL L N) c ∈ repL L N := by
  rw [nth_eq _ _ h]; exact List.getElem_mem h
theorem rep_lt {c : Nat} (h : c < (repL L N).length) : nth (repL L N) c < N := (repL_mem.1 (rep_mem h)).1
theorem rep_low {c : Nat} (h : c < (repL L N).length) : lowOf L (nth (repL L N) c) = nth (repL L N) c := (repL_mem.1 (rep_mem h)).2
theorem clsOf_rep {c : Nat} (h : c < (repL L N).length) : clsOf L N (nth (repL L N) c) = c := by
  unfold clsOf
  rw [rep_low h, nth_eq _ _ h]
  exact List.Nodup.idxOf_getElem (repL_nodup L N) c h
theorem clsOf_iff (hv : v < N) (hw : w < N) : clsOf L N v = clsOf L N w ↔ agr L v w = true := by
  constructor
  · intro h
    have := clsOf_nth L hv
    rw [h, clsOf_nth L hw] at this
    exact lowOf_iff.1 this.symm
  · intro h
    unfold clsOf; rw [lowOf_eq h]
theorem clsOf_agr (hw : w < N) : agr L (nth (repL L N) (clsOf L N w)) w = true := by
  rw [clsOf_nth L hw]; exact lowOf_agr L w
end
end Wt

/- Plain laws: distribution, truth and both introspections, as trees and as sets. -/
namespace Wt
open Go Go.RowKit Go.Proofs Fm

theorem ru_cell {w : World} {b off : Nat} {l : List (BitVec 64)} (h : RU w (some ⟨b, off, none⟩) l) {k : Nat} (hk : k < l.length) : w.cell? ⟨b, off + k, none⟩ = some (.int .u64 (un (nth l k))) := by
  obtain ⟨b', off', e, _, hc⟩ := h.get hk
  simp only [Option.some.injEq, Addr.mk.injEq] at e
  obtain ⟨rfl, rfl, -⟩ := e
  exact hc
theorem imp_all {N : Nat} {a b : BitVec 64} (hb : Sub b (allW N)) (h : ∀ k, k < 64 → k < N → bt a k = true → bt b k = true) : (allW N &&& ~~~ a) ||| b = allW N := bt_ext fun k hk => by
  rw [bt_or, bt_and, bt_not, bt_allW]
  by_cases hn : k < N
  · cases ha : bt a k
    · simp [hk, hn]
    · rw [h k hk hn ha]; simp [hk, hn]
  · have : bt b k = false := by
      cases hc : bt b k
      · rfl
      · have := hb k hk hc
        rw [bt_allW] at this; simp [hn] at this
    simp [hn, this]
section
variable {M : Mo} {N : Nat} (ok : MoOk M N) {q : Nat} (hq : q < M.rel.length)
include ok hq
theorem box_sub {Z : BitVec 64} {k : Nat} (hk : k < 64) (hn : k < N) : bt (relBox (nth M.rel q) Z) k = true ↔ Sub (nth (nth M.rel q) k) Z := by
  rw [bt_agent ok hq Z hk, Bool.and_eq_true, sub_bool]
  simp [hn]
theorem agent_in (Z : BitVec 64) : Sub (relBox (nth M.rel q) Z) (allW N) := box_in (by rw [(row_in ok hq).1]; exact Nat.le_refl _)
theorem lawK (x y : BitVec 64) (_hy : Sub y (allW N)) : (allW N &&& ~~~ relBox (nth M.rel q) ((allW N &&& ~~~ x) ||| y)) ||| ((allW N &&& ~~~ relBox (nth M.rel q) x) ||| relBox (nth M.rel q) y) = allW N := by
  refine imp_all (Sub.and1 (Sub.refl _) |>.or (agent_in ok hq y)) fun k hk hn h1 => ?_
  rw [box_sub ok hq hk hn] at h1
  rw [bt_or, bt_and, bt_not, bt_allW]
  cases h2 : bt (relBox (nth M.rel q) x) k
  · simp [hk, hn]
  · rw [box_sub ok hq hk hn] at h2
    have : bt (relBox (nth M.rel q) y) k = true := (box_sub ok hq hk hn).2 fun u hu hb => by
      have h3 := h1 u hu hb
      rw [bt_or, bt_and, bt_not, h2 u hu hb] at h3
      simpa using h3
    rw [this]; simp
/-- What the law asks of an equivalence. -/
def eqI (r : List (BitVec 64)) (w : Nat) : Nat → Bool := allQ fun x => !bt (nth r w) x || (nth r w == nth r x)
def eqO (r : List (BitVec 64)) (N : Nat) : Nat → Bool := allQ fun w => bt (nth r w) w && eqI r w N
omit ok hq in
theorem eqO_iff {r : List (BitVec 64)} (h : eqO r N N = true) : (∀ w, w < N → bt (nth r w) w = true) ∧ ∀ w x, w < N → x < N → bt (nth r w) x = true → nth r w = nth r x := by
  unfold eqO at h
  rw [allQ_iff] at h
  refine ⟨fun w hw => (Bool.and_eq_true _ _ ▸ h w hw).1, fun w x hw hx hb => ?_⟩
  have h2 := (Bool.and_eq_true _ _ ▸ h w hw).2
  unfold eqI at h2
  rw [allQ_iff] at h2
  have := h2 x hx
  rw [hb] at this
  simpa using this
variable (he : eqO (nth M.rel q) N N = true)
include he
theorem lawT (x : BitVec 64) (hx : Sub x (allW N)) : (allW N &&& ~~~ relBox (nth M.rel q) x) ||| x = allW N := by
  obtain ⟨h1, _⟩ := eqO_iff he
  exact imp_all hx fun k hk hn h => (box_sub ok hq hk hn).1 h k hk (h1 k hn)
theorem law4 (x : BitVec 64) : (allW N &&& ~~~ relBox (nth M.rel q) x) ||| relBox (nth M.rel q) (relBox (nth M.rel q) x) = allW N := by
  obtain ⟨_, h2⟩ := eqO_iff he
  refine imp_all (agent_in ok hq _) fun k hk hn h => (box_sub ok hq hk hn).2 fun u hu hb => ?_
  have hun : u < N := by
    have := (row_in ok hq).2 k hn u hu hb
    rw [bt_allW] at this; simp at this; exact this.2
  rw [box_sub ok hq hu hun, ← h2 k u hn hun hb]
  exact (box_sub ok hq hk hn).1 h
theorem law5 (x : BitVec 64) : (allW N &&& ~~~ (allW N &&& ~~~ relBox (nth M.rel q) x)) ||| relBox (nth M.rel q) (allW N &&& ~~~ relBox (nth M.rel q) x) = allW N := by
  obtain ⟨_, h2⟩ := eqO_iff he
  refine imp_all (agent_in ok hq _) fun k hk hn h => (box_sub ok hq hk hn).2 fun u hu hb => ?_
  have hun : u < N := by
    have := (row_in ok hq).2 k hn u hu hb
    rw [bt_allW] at this; simp at this; exact this.2
  rw [bt_and, bt_not, bt_allW] at h ⊢
  have hneg : bt (relBox (nth M.rel q) x) u = false := by
    cases hc : bt (relBox (nth M.rel q) x) u
    · rfl
    · rw [box_sub ok hq hu hun, ← h2 k u hn hun hb] at hc
      have := (box_sub ok hq hk hn).2 hc
      rw [this] at h; simp at h
  rw [hneg]; simp [hu, hun]
end
/-- The formulas of one agent's axioms, and their sets. -/
structure AxF (M : Mo) (N a : Nat) (f h : List Nd) : Prop where
  iK : Hid (IsF (fB ⟨7, 0, 0, 0, 0, 0⟩ [fB ⟨9, (a : Int), 0, 0, 0, 0⟩ [fB ⟨7, 0, 0, 0, 0, 0⟩ [f, h]], fB ⟨7, 0, 0, 0, 0, 0⟩ [fB ⟨9, (a : Int), 0, 0, 0, 0⟩ [f], fB ⟨9, (a : Int), 0, 0, 0, 0⟩ [h]]]) (.bin 7 0 0 0 (.un 9 a 0 0 (.bin 7 0 0 0 (rt f) (rt h))) (.bin 7 0 0 0 (.un 9 a 0 0 (rt f)) (.un 9 a 0 0 (rt h)))))
  sK : Hid (semT M (.bin 7 0 0 0 (.un 9 a 0 0 (.bin 7 0 0 0 (rt f) (rt h))) (.bin 7 0 0 0 (.un 9 a 0 0 (rt f)) (.un 9 a 0 0 (rt h)))) = (allW N, true))
  iT : Hid (IsF (fB ⟨7, 0, 0, 0, 0, 0⟩ [fB ⟨9, (a : Int), 0, 0, 0, 0⟩ [f], f]) (.bin 7 0 0 0 (.un 9 a 0 0 (rt f)) (rt f)))
  i4 : Hid (IsF (fB ⟨7, 0, 0, 0, 0, 0⟩ [fB ⟨9, (a : Int), 0, 0, 0, 0⟩ [f], fB ⟨9, (a : Int), 0, 0, 0, 0⟩ [fB ⟨9, (a : Int), 0, 0, 0, 0⟩ [f]]]) (.bin 7 0 0 0 (.un 9 a 0 0 (rt f)) (.un 9 a 0 0 (.un 9 a 0 0 (rt f)))))
  i5 : Hid (IsF (fB ⟨7, 0, 0, 0, 0, 0⟩ [fB ⟨4, 0, 0, 0, 0, 0⟩ [fB ⟨9, (a : Int), 0, 0, 0, 0⟩ [f]], fB ⟨9, (a : Int), 0, 0, 0, 0⟩ [fB ⟨4, 0, 0, 0, 0, 0⟩ [fB ⟨9, (a : Int), 0, 0, 0, 0⟩ [f]]]]) (.bin 7 0 0 0 (.un 4 0 0 0 (.un 9 a 0 0 (rt f))) (.un 9 a 0 0 (.un 4 0 0 0 (.un 9 a 0 0 (rt f))))))
  sE : Hid (eqO (nth M.rel a) N N = true → semT M (.bin 7 0 0 0 (.un 9 a 0 0 (rt f)) (rt f)) = (allW N, true) ∧ semT M (.bin 7 0 0 0 (.un 9 a 0 0 (rt f)) (.un 9 a 0 0 (.un 9 a 0 0 (rt f)))) = (allW N, true) ∧ semT M (.bin 7 0 0 0 (.un 4 0 0 0 (.un 9 a 0 0 (rt f))) (.un 9 a 0 0 (.un 4 0 0 0 (.un 9 a 0 0 (rt f))))) = (allW N, true))
/-- A tree has at most as many different trees below it as a list that holds them. -/
theorem fsize_axK {a b : Fm} (q : Int) (ha : fsize a ≤ 60) (hb : fsize b ≤ 60) : fsize (.bin 7 0 0 0 (.un 9 q 0 0 (.bin 7 0 0 0 a b)) (.bin 7 0 0 0 (.un 9 q 0 0 a) (.un 9 q 0 0 b))) ≤ 200 := by
  have := fsize_sub (t := .bin 7 0 0 0 (.un 9 q 0 0 (.bin 7 0 0 0 a b)) (.bin 7 0 0 0 (.un 9 q 0 0 a) (.un 9 q 0 0 b)))
    (L := addT a [] ++ (addT b [] ++ [.bin 7 0 0 0 (.un 9 q 0 0 (.bin 7 0 0 0 a b)) (.bin 7 0 0 0 (.un 9 q 0 0 a) (.un 9 q 0 0 b)), .un 9 q 0 0 (.bin 7 0 0 0 a b), .bin 7 0 0 0 a b, .bin 7 0 0 0 (.un 9 q 0 0 a) (.un 9 q 0 0 b), .un 9 q 0 0 a, .un 9 q 0 0 b])) (fun s hs => by
      simp only [sbt] at hs
      simp only [List.mem_append, List.mem_cons, List.not_mem_nil, or_false]
      rcases hs with h | (h | h | h | h) | h | (h | h) | h | h
      all_goals first
        | exact .inl (sbt_mem h)
        | exact .inr (.inl (sbt_mem h))
        | (right; right; simp [h]))
  simp only [List.length_append, List.length_cons, List.length_nil] at this
  simp only [fsize] at *
  omega
section
variable {M : Mo} {N : Nat} (ok : MoOk M N) {a : Nat} (ha : a < M.rel.length)
include ok ha
omit ok in
theorem sem_know {t : Fm} {s : BitVec 64} (h : semT M t = (s, true)) : semT M (.un 9 (a : Int) 0 0 t) = (relBox (nth M.rel a) s, true) := by
  rw [semT_un _ _ _ _ (by rw [h]), h]
  have hng : ¬ ((M.rel.length : Int) ≤ (a : Int)) := by omega
  simp [valN, hng]
omit ha in
theorem sem_imp {t u : Fm} {s r : BitVec 64} (h : semT M t = (s, true)) (h2 : semT M u = (r, true)) : semT M (.bin 7 0 0 0 t u) = ((allW N &&& ~~~ s) ||| r, true) := by
  have hNt : M.worlds.toNat = N := by rw [ok.worlds]; exact Int.toNat_natCast N
  rw [semT_bin _ _ _ _ (by rw [h]) (by rw [h2]), h, h2]
  simp [valN, hNt]
omit ha in
theorem sem_not {t : Fm} {s : BitVec 64} (h : semT M t = (s, true)) : semT M (.un 4 0 0 0 t) = (allW N &&& ~~~ s, true) := by
  have hNt : M.worlds.toNat = N := by rw [ok.worlds]; exact Int.toNat_natCast N
  rw [semT_un _ _ _ _ (by rw [h]), h]
  simp [valN, hNt]
theorem axF {f h : List Nd} (If : IsF f (rt f)) (Ih : IsF h (rt h)) (Sf : semT M (rt f) = (holdsOf M f, true)) (Sh : semT M (rt h) = (holdsOf M h, true)) (hlf : f.length ≤ 60) (hlh : h.length ≤ 60) : AxF M N a f h := by
  have hR4 := ok.rel
  have zf : fsize (rt f) ≤ 60 := Nat.le_trans If.sz hlf
  have zh : fsize (rt h) ≤ 60 := Nat.le_trans Ih.sz hlh
  have inf : Sub (holdsOf M f) (allW N) := by have := semT_in ok (rt f); rw [Sf] at this; exact this
  have inh : Sub (holdsOf M h) (allW N) := by have := semT_in ok (rt h); rw [Sh] at this; exact this
  have un9 : ∀ t, fsize (.un 9 (a : Int) 0 0 t) ≤ fsize t + 1 := fun t => fsize_un 9 (a : Int) 0 0
  have un4 : ∀ t, fsize (.un 4 0 0 0 t) ≤ fsize t + 1 := fun t => fsize_un 4 0 0 0
  have b7 : ∀ t u, fsize (.bin 7 0 0 0 t u) ≤ fsize t + fsize u + 1 := fun t u => fsize_bin 7 0 0 0
  have kk : ∀ {l t}, IsF l t → fsize t ≤ 190 → IsF (fB ⟨9, (a : Int), 0, 0, 0, 0⟩ [l]) (.un 9 (a : Int) 0 0 t) := fun h1 h2 => isF_un h1 (fok_know a (by omega) h1.fk) (Nat.le_trans (un9 _) (by omega))
  have nn : ∀ {l t}, IsF l t → fsize t ≤ 190 → IsF (fB ⟨4, 0, 0, 0, 0, 0⟩ [l]) (.un 4 0 0 0 t) := fun h1 h2 => isF_un h1 (fok_not h1.fk) (Nat.le_trans (un4 _) (by omega))
  have ii : ∀ {l t m u}, IsF l t → IsF m u → fsize (.bin 7 0 0 0 t u) ≤ 200 → IsF (fB ⟨7, 0, 0, 0, 0, 0⟩ [l, m]) (.bin 7 0 0 0 t u) := fun h1 h2 h3 => isF_bin h1 h2 (fok_imp h1.fk h2.fk) h3 rfl
  have q1 := un9 (rt f)
  have q2 := un9 (rt h)
  have q3 := un9 (.un 9 (a : Int) 0 0 (rt f))
  have q4 := un4 (.un 9 (a : Int) 0 0 (rt f))
  have q5 := un9 (.un 4 0 0 0 (.un 9 (a : Int) 0 0 (rt f)))
  have q6 := b7 (rt f) (rt h)
  have kf := kk If (by omega)
  have s1 := sem_know ha Sf
  have s2 := sem_know ha s1
  have s3 := sem_not ok s1
  refine ⟨Lib.hid (ii (kk (ii If Ih (by omega)) (by omega)) (ii kf (kk Ih (by omega)) (Nat.le_trans (b7 _ _) (by omega))) (fsize_axK _ zf zh)), Lib.hid ?_, Lib.hid (ii kf If (Nat.le_trans (b7 _ _) (by omega))), Lib.hid (ii kf (kk kf (by omega)) (Nat.le_trans (b7 _ _) (by omega))), Lib.hid (ii (nn kf (by omega)) (kk (nn kf (by omega)) (by omega)) (Nat.le_trans (b7 _ _) (by omega))), Lib.hid fun he => ⟨?_, ?_, ?_⟩⟩
  · rw [sem_imp ok (sem_know ha (sem_imp ok Sf Sh)) (sem_imp ok s1 (sem_know ha Sh)), lawK ok ha _ _ inh]
  · rw [sem_imp ok s1 Sf, lawT ok ha he _ inf]
  · rw [sem_imp ok s1 s2, law4 ok ha he]
  · rw [sem_imp ok s3 (sem_know ha s3), law5 ok ha he]
end
end Wt
