/- Plain laws: distribution, truth and both introspections, as trees and as sets. -/
import Derived.Test.YtdnpgadkklgjeaaGrp
namespace Wt
open Go Go.RowKit Go.Proofs Fm

theorem ru_cell {w : World} {b off : Nat} {l : List (BitVec 64)} (h : RU w (some ⟨b, off, none⟩) l) {k : Nat} (hk : k < l.length) : w.cell? ⟨b, off + k, none⟩ = some (.int .u64 (un (nth l k))) := by
  obtain ⟨b', off', e, _, hc⟩ := h.get hk
  simp only [Option.some.injEq, Addr.mk.injEq] at e
  obtain ⟨rfl, rfl, -⟩ := e
  exact hc
theorem imp_all {N : Nat} {a b : BitVec 64} (hb : Sub b (allW N)) (h : ∀ k, k < 64 → k < N → bt a k = true → bt b k = true) : (allW N &&& ~~~ a) ||| b = allW N := bt_ext fun k hk => by
  rw [bt_or, bt_and, bt_not, bt_allW]
  by_cases hn : k < N
  · cases ha : bt a k
    · simp [hk, hn]
    · rw [h k hk hn ha]; simp [hk, hn]
  · have : bt b k = false := by
      cases hc : bt b k
      · rfl
      · have := hb k hk hc
        rw [bt_allW] at this; simp [hn] at this
    simp [hn, this]
section
variable {M : Mo} {N : Nat} (ok : MoOk M N) {q : Nat} (hq : q < M.rel.length)
include ok hq
theorem box_sub {Z : BitVec 64} {k : Nat} (hk : k < 64) (hn : k < N) : bt (relBox (nth M.rel q) Z) k = true ↔ Sub (nth (nth M.rel q) k) Z := by
  rw [bt_agent ok hq Z hk, Bool.and_eq_true, sub_bool]
  simp [hn]
theorem agent_in (Z : BitVec 64) : Sub (relBox (nth M.rel q) Z) (allW N) := box_in (by rw [(row_in ok hq).1]; exact Nat.le_refl _)
theorem lawK (x y : BitVec 64) (_hy : Sub y (allW N)) : (allW N &&& ~~~ relBox (nth M.rel q) ((allW N &&& ~~~ x) ||| y)) ||| ((allW N &&& ~~~ relBox (nth M.rel q) x) ||| relBox (nth M.rel q) y) = allW N := by
  refine imp_all (Sub.and1 (Sub.refl _) |>.or (agent_in ok hq y)) fun k hk hn h1 => ?_
  rw [box_sub ok hq hk hn] at h1
  rw [bt_or, bt_and, bt_not, bt_allW]
  cases h2 : bt (relBox (nth M.rel q) x) k
  · simp [hk, hn]
  · rw [box_sub ok hq hk hn] at h2
    have : bt (relBox (nth M.rel q) y) k = true := (box_sub ok hq hk hn).2 fun u hu hb => by
      have h3 := h1 u hu hb
      rw [bt_or, bt_and, bt_not, h2 u hu hb] at h3
      simpa using h3
    rw [this]; simp
/-- What the law asks of an equivalence. -/
def eqI (r : List (BitVec 64)) (w : Nat) : Nat → Bool := allQ fun x => !bt (nth r w) x || (nth r w == nth r x)
def eqO (r : List (BitVec 64)) (N : Nat) : Nat → Bool := allQ fun w => bt (nth r w) w && eqI r w N
omit ok hq in
theorem eqO_iff {r : List (BitVec 64)} (h : eqO r N N = true) : (∀ w, w < N → bt (nth r w) w = true) ∧ ∀ w x, w < N → x < N → bt (nth r w) x = true → nth r w = nth r x := by
  unfold eqO at h
  rw [allQ_iff] at h
  refine ⟨fun w hw => (Bool.and_eq_true _ _ ▸ h w hw).1, fun w x hw hx hb => ?_⟩
  have h2 := (Bool.and_eq_true _ _ ▸ h w hw).2
  unfold eqI at h2
  rw [allQ_iff] at h2
  have := h2 x hx
  rw [hb] at this
  simpa using this
variable (he : eqO (nth M.rel q) N N = true)
include he
theorem lawT (x : BitVec 64) (hx : Sub x (allW N)) : (allW N &&& ~~~ relBox (nth M.rel q) x) ||| x = allW N := by
  obtain ⟨h1, _⟩ := eqO_iff he
  exact imp_all hx fun k hk hn h => (box_sub ok hq hk hn).1 h k hk (h1 k hn)
theorem law4 (x : BitVec 64) : (allW N &&& ~~~ relBox (nth M.rel q) x) ||| relBox (nth M.rel q) (relBox (nth M.rel q) x) = allW N := by
  obtain ⟨_, h2⟩ := eqO_iff he
  refine imp_all (agent_in ok hq _) fun k hk hn h => (box_sub ok hq hk hn).2 fun u hu hb => ?_
  have hun : u < N := by
    have := (row_in ok hq).2 k hn u hu hb
    rw [bt_allW] at this; simp at this; exact this.2
  rw [box_sub ok hq hu hun, ← h2 k u hn hun hb]
  exact (box_sub ok hq hk hn).1 h
theorem law5 (x : BitVec 64) : (allW N &&& ~~~ (allW N &&& ~~~ relBox (nth M.rel q) x)) ||| relBox (nth M.rel q) (allW N &&& ~~~ relBox (nth M.rel q) x) = allW N := by
  obtain ⟨_, h2⟩ := eqO_iff he
  refine imp_all (agent_in ok hq _) fun k hk hn h => (box_sub ok hq hk hn).2 fun u hu hb => ?_
  have hun : u < N := by
    have := (row_in ok hq).2 k hn u hu hb
    rw [bt_allW] at this; simp at this; exact this.2
  rw [bt_and, bt_not, bt_allW] at h ⊢
  have hneg : bt (relBox (nth M.rel q) x) u = false := by
    cases hc : bt (relBox (nth M.rel q) x) u
    · rfl
    · rw [box_sub ok hq hu hun, ← h2 k u hn hun hb] at hc
      have := (box_sub ok hq hk hn).2 hc
      rw [this] at h; simp at h
  rw [hneg]; simp [hu, hun]
end
/-- A right formula that has all worlds. -/
theorem validT {M : Mo} {N : Nat} (hM : moCheck M = 0) {l : List Nd} {t : Fm} (h : IsF l t) (hs : semT M t = (allW N, true)) (hN : M.worlds.toNat = N) (va ra : Option Addr) (vc rc : Nat) (fa : Option Addr) (fc : Nat) (w : World) (hm : RM w va ra M) (hf : RN w fa l) :
    Calls Try.prog 16 #[.agg #[.int .i64 M.worlds, .slice va M.val.length vc, .slice ra M.rel.length rc], .slice fa l.length fc] w fun e w' => RetP (.bool true) 0 e w w' := by
  obtain ⟨h1, h2⟩ := set_sem hM h
  have := valid_any M va ra vc rc fa fc l w hm hf
  have e0 : reqErr M l = 0 := by rw [hs] at h1; simpa using h1
  have e1 : validOf M l = true := by
    unfold validOf
    rw [h2, hs, e0, hN]; simp
  rw [e1, e0] at this
  exact this
/-- The formulas of one agent's axioms, and their sets. -/
structure AxF (M : Mo) (N a : Nat) (f h : List Nd) : Prop where
  iK : Hid (IsF (fB ⟨7, 0, 0, 0, 0, 0⟩ [fB ⟨9, (a : Int), 0, 0, 0, 0⟩ [fB ⟨7, 0, 0, 0, 0, 0⟩ [f, h]], fB ⟨7, 0, 0, 0, 0, 0⟩ [fB ⟨9, (a : Int), 0, 0, 0, 0⟩ [f], fB ⟨9, (a : Int), 0, 0, 0, 0⟩ [h]]]) (.bin 7 0 0 0 (.un 9 a 0 0 (.bin 7 0 0 0 (rt f) (rt h))) (.bin 7 0 0 0 (.un 9 a 0 0 (rt f)) (.un 9 a 0 0 (rt h)))))
  sK : Hid (semT M (.bin 7 0 0 0 (.un 9 a 0 0 (.bin 7 0 0 0 (rt f) (rt h))) (.bin 7 0 0 0 (.un 9 a 0 0 (rt f)) (.un 9 a 0 0 (rt h)))) = (allW N, true))
  iT : Hid (IsF (fB ⟨7, 0, 0, 0, 0, 0⟩ [fB ⟨9, (a : Int), 0, 0, 0, 0⟩ [f], f]) (.bin 7 0 0 0 (.un 9 a 0 0 (rt f)) (rt f)))
  i4 : Hid (IsF (fB ⟨7, 0, 0, 0, 0, 0⟩ [fB ⟨9, (a : Int), 0, 0, 0, 0⟩ [f], fB ⟨9, (a : Int), 0, 0, 0, 0⟩ [fB ⟨9, (a : Int), 0, 0, 0, 0⟩ [f]]]) (.bin 7 0 0 0 (.un 9 a 0 0 (rt f)) (.un 9 a 0 0 (.un 9 a 0 0 (rt f)))))
  i5 : Hid (IsF (fB ⟨7, 0, 0, 0, 0, 0⟩ [fB ⟨4, 0, 0, 0, 0, 0⟩ [fB ⟨9, (a : Int), 0, 0, 0, 0⟩ [f]], fB ⟨9, (a : Int), 0, 0, 0, 0⟩ [fB ⟨4, 0, 0, 0, 0, 0⟩ [fB ⟨9, (a : Int), 0, 0, 0, 0⟩ [f]]]]) (.bin 7 0 0 0 (.un 4 0 0 0 (.un 9 a 0 0 (rt f))) (.un 9 a 0 0 (.un 4 0 0 0 (.un 9 a 0 0 (rt f))))))
  sE : Hid (eqO (nth M.rel a) N N = true → semT M (.bin 7 0 0 0 (.un 9 a 0 0 (rt f)) (rt f)) = (allW N, true) ∧ semT M (.bin 7 0 0 0 (.un 9 a 0 0 (rt f)) (.un 9 a 0 0 (.un 9 a 0 0 (rt f)))) = (allW N, true) ∧ semT M (.bin 7 0 0 0 (.un 4 0 0 0 (.un 9 a 0 0 (rt f))) (.un 9 a 0 0 (.un 4 0 0 0 (.un 9 a 0 0 (rt f))))) = (allW N, true))
/-- A tree has at most as many different trees below it as a list that holds them. -/
theorem fsize_axK {a b : Fm} (q : Int) (ha : fsize a ≤ 60) (hb : fsize b ≤ 60) : fsize (.bin 7 0 0 0 (.un 9 q 0 0 (.bin 7 0 0 0 a b)) (.bin 7 0 0 0 (.un 9 q 0 0 a) (.un 9 q 0 0 b))) ≤ 200 := by
  have := fsize_sub (t := .bin 7 0 0 0 (.un 9 q 0 0 (.bin 7 0 0 0 a b)) (.bin 7 0 0 0 (.un 9 q 0 0 a) (.un 9 q 0 0 b)))
    (L := addT a [] ++ (addT b [] ++ [.bin 7 0 0 0 (.un 9 q 0 0 (.bin 7 0 0 0 a b)) (.bin 7 0 0 0 (.un 9 q 0 0 a) (.un 9 q 0 0 b)), .un 9 q 0 0 (.bin 7 0 0 0 a b), .bin 7 0 0 0 a b, .bin 7 0 0 0 (.un 9 q 0 0 a) (.un 9 q 0 0 b), .un 9 q 0 0 a, .un 9 q 0 0 b])) (fun s hs => by
      simp only [sbt] at hs
      simp only [List.mem_append, List.mem_cons, List.not_mem_nil, or_false]
      rcases hs with h | (h | h | h | h) | h | (h | h) | h | h
      all_goals first
        | exact .inl (sbt_mem h)
        | exact .inr (.inl (sbt_mem h))
        | (right; right; simp [h]))
  simp only [List.length_append, List.length_cons, List.length_nil] at this
  simp only [fsize] at *
  omega
section
variable {M : Mo} {N : Nat} (ok : MoOk M N) {a : Nat} (ha : a < M.rel.length)
include ok ha
omit ok in
theorem sem_know {t : Fm} {s : BitVec 64} (h : semT M t = (s, true)) : semT M (.un 9 (a : Int) 0 0 t) = (relBox (nth M.rel a) s, true) := by
  rw [semT_un _ _ _ _ (by rw [h]), h]
  have hng : ¬ ((M.rel.length : Int) ≤ (a : Int)) := by omega
  simp [valN, hng]
omit ha in
theorem sem_imp {t u : Fm} {s r : BitVec 64} (h : semT M t = (s, true)) (h2 : semT M u = (r, true)) : semT M (.bin 7 0 0 0 t u) = ((allW N &&& ~~~ s) ||| r, true) := by
  have hNt : M.worlds.toNat = N := by rw [ok.worlds]; exact Int.toNat_natCast N
  rw [semT_bin _ _ _ _ (by rw [h]) (by rw [h2]), h, h2]
  simp [valN, hNt]
omit ha in
theorem sem_not {t : Fm} {s : BitVec 64} (h : semT M t = (s, true)) : semT M (.un 4 0 0 0 t) = (allW N &&& ~~~ s, true) := by
  have hNt : M.worlds.toNat = N := by rw [ok.worlds]; exact Int.toNat_natCast N
  rw [semT_un _ _ _ _ (by rw [h]), h]
  simp [valN, hNt]
theorem axF {f h : List Nd} (If : IsF f (rt f)) (Ih : IsF h (rt h)) (Sf : semT M (rt f) = (holdsOf M f, true)) (Sh : semT M (rt h) = (holdsOf M h, true)) (hlf : f.length ≤ 60) (hlh : h.length ≤ 60) : AxF M N a f h := by
  have hR4 := ok.rel
  have zf : fsize (rt f) ≤ 60 := Nat.le_trans If.sz hlf
  have zh : fsize (rt h) ≤ 60 := Nat.le_trans Ih.sz hlh
  have inf : Sub (holdsOf M f) (allW N) := by have := semT_in ok (rt f); rw [Sf] at this; exact this
  have inh : Sub (holdsOf M h) (allW N) := by have := semT_in ok (rt h); rw [Sh] at this; exact this
  have un9 : ∀ t, fsize (.un 9 (a : Int) 0 0 t) ≤ fsize t + 1 := fun t => fsize_un 9 (a : Int) 0 0
  have un4 : ∀ t, fsize (.un 4 0 0 0 t) ≤ fsize t + 1 := fun t => fsize_un 4 0 0 0
  have b7 : ∀ t u, fsize (.bin 7 0 0 0 t u) ≤ fsize t + fsize u + 1 := fun t u => fsize_bin 7 0 0 0
  have kk : ∀ {l t}, IsF l t → fsize t ≤ 190 → IsF (fB ⟨9, (a : Int), 0, 0, 0, 0⟩ [l]) (.un 9 (a : Int) 0 0 t) := fun h1 h2 => isF_un h1 (fok_know a (by omega) h1.fk) (Nat.le_trans (un9 _) (by omega))
  have nn : ∀ {l t}, IsF l t → fsize t ≤ 190 → IsF (fB ⟨4, 0, 0, 0, 0, 0⟩ [l]) (.un 4 0 0 0 t) := fun h1 h2 => isF_un h1 (fok_not h1.fk) (Nat.le_trans (un4 _) (by omega))
  have ii : ∀ {l t m u}, IsF l t → IsF m u → fsize (.bin 7 0 0 0 t u) ≤ 200 → IsF (fB ⟨7, 0, 0, 0, 0, 0⟩ [l, m]) (.bin 7 0 0 0 t u) := fun h1 h2 h3 => isF_bin h1 h2 (fok_imp h1.fk h2.fk) h3 rfl
  have q1 := un9 (rt f)
  have q2 := un9 (rt h)
  have q3 := un9 (.un 9 (a : Int) 0 0 (rt f))
  have q4 := un4 (.un 9 (a : Int) 0 0 (rt f))
  have q5 := un9 (.un 4 0 0 0 (.un 9 (a : Int) 0 0 (rt f)))
  have q6 := b7 (rt f) (rt h)
  have kf := kk If (by omega)
  have s1 := sem_know ha Sf
  have s2 := sem_know ha s1
  have s3 := sem_not ok s1
  refine ⟨Lib.hid (ii (kk (ii If Ih (by omega)) (by omega)) (ii kf (kk Ih (by omega)) (Nat.le_trans (b7 _ _) (by omega))) (fsize_axK _ zf zh)), Lib.hid ?_, Lib.hid (ii kf If (Nat.le_trans (b7 _ _) (by omega))), Lib.hid (ii kf (kk kf (by omega)) (Nat.le_trans (b7 _ _) (by omega))), Lib.hid (ii (nn kf (by omega)) (kk (nn kf (by omega)) (by omega)) (Nat.le_trans (b7 _ _) (by omega))), Lib.hid fun he => ⟨?_, ?_, ?_⟩⟩
  · rw [sem_imp ok (sem_know ha (sem_imp ok Sf Sh)) (sem_imp ok s1 (sem_know ha Sh)), lawK ok ha _ _ inh]
  · rw [sem_imp ok s1 Sf, lawT ok ha he _ inf]
  · rw [sem_imp ok s1 s2, law4 ok ha he]
  · rw [sem_imp ok s3 (sem_know ha s3), law5 ok ha he]
end
end Wt
