/-  The walk of immediate dominators: how it begins and ends. No conditions. -/
import Derived.Test.YtknphnmhjmejaaaDe
namespace Go.Proofs.Ytknphnmhjmejaaa
set_option linter.unusedVariables false
/-- A list of which the first are -1. -/
def neg1 (k n : Nat) : List Int := List.replicate k (-1) ++ List.replicate (n - k) 0
theorem neg1_set {k n : Nat} (h : k < n) : (neg1 k n).set k (-1) = neg1 (k + 1) n := by
  apply List.ext_getElem?
  intro i
  unfold neg1
  rw [List.getElem?_set]
  simp only [List.length_append, List.length_replicate, List.getElem?_append, List.getElem?_replicate]
  by_cases e : k = i
  · subst e
    simp
    omega
  · simp only [if_neg e]
    by_cases h1 : i < k
    · simp only [h1, show i < k + 1 by omega, if_true]
    · simp only [h1, show ¬ i < k + 1 by omega, if_false]
      by_cases h2 : i < n
      · simp only [show i - k < n - k by omega, show i - (k + 1) < n - (k + 1) by omega, if_true]
      · simp only [show ¬ i - k < n - k by omega, show ¬ i - (k + 1) < n - (k + 1) by omega, if_false]
theorem neg1_len {k n : Nat} (h : k ≤ n) : (neg1 k n).length = n := by
  simp [neg1]; omega
/-- What lies where while all begins. -/
structure DB (n : Nat) (a b : List Int) (h : Hp) : Prop where
  o1 : h[1]? = some ⟨0, 1, a.map ai⟩
  o2 : h[2]? = some ⟨0, 1, [.sl 1 0 0 n]⟩
  o3 : h[3]? = some ⟨0, 1, b.map ai⟩
  o4 : h[4]? = some ⟨0, 1, [.sl 3 0 0 n]⟩
theorem sv1_at {R : Type} {h : Hp} {o v e off : Nat} {cs : List AV} {x : AV} (ho : h[o]? = some ⟨v, e, cs⟩) (hx : cs[off]? = some x) (K : Option R) : sv1 h (.ptr o v off) x K = K := by
  unfold sv1
  rw [if_pos]
  simp [cellAt, ho, hx]
theorem init_loop {n : Nat} (hn : n ≤ 4096) (kk M : Nat) (x1 p1 : AV) (o0 : Option Ob) (Q : Option (ARes × Hp) → Prop)
    (next : ∀ h, h.length = 5 → h[0]? = o0 → DB n (neg1 n n) (neg1 n n) h → Q (ssa_Doms_p31 kk x1 p1 (.ptr 2 0 0) (.ptr 4 0 0) h)) :
    ∀ (m i N : Nat) (h : Hp), i + m = n → m < N → h.length = 5 → h[0]? = o0 → DB n (neg1 i n) (neg1 i n) h → Q (ssa_Doms_l244 kk N M x1 p1 (.ptr 2 0 0) (.ptr 4 0 0) n i h) := by
  intro m
  induction m with
  | zero =>
    intro i N h hi hN hlen h0 d
    obtain ⟨N, rfl⟩ : ∃ q, N = q + 1 := ⟨N - 1, by omega⟩
    have : i = n := by omega
    subst this
    rw [ssa_Doms_l244_eq, bsp_not (decide_eq_false (by omega))]
    exact next h hlen h0 d
  | succ m ih =>
    intro i N h hi hN hlen h0 d
    obtain ⟨N, rfl⟩ : ∃ q, N = q + 1 := ⟨N - 1, by omega⟩
    have hin : i < n := by omega
    have e1 : ((neg1 i n).map ai).set i (ai (-1)) = (neg1 (i + 1) n).map ai := by
      rw [← neg1_set hin, List.map_set]
    have hl : i < ((neg1 i n).map ai).length := by rw [List.length_map, neg1_len (by omega)]; exact hin
    rw [ssa_Doms_l244_eq, bsp_of (decide_eq_true (by omega)), ldv_at d.o2 (by rfl), ldv_at d.o4 (by rfl), sl_at hin, stv_at d.o1 hl (by rfl) (by rfl), e1]
    have k4 : (h.set 1 ⟨0, 1, (neg1 (i + 1) n).map ai⟩)[4]? = some ⟨0, 1, [.sl 3 0 0 n]⟩ := get_set_ne (by omega) d.o4
    have k3 : (h.set 1 ⟨0, 1, (neg1 (i + 1) n).map ai⟩)[3]? = some ⟨0, 1, (neg1 i n).map ai⟩ := get_set_ne (by omega) d.o3
    rw [sv1_at k4 (by rfl), sl_at hin, stv_at k3 hl (by rfl) (by rfl), e1, wri_succ (by omega)]
    refine ih (i + 1) N _ (by omega) (by omega) (by simp [hlen]) ?_ ⟨get_set_ne (by omega) (get_set_eq d.o1), get_set_ne (by omega) (get_set_ne (by omega) d.o2), get_set_eq k3, get_set_ne (by omega) k4⟩
    rw [List.getElem?_set_ne (by omega), List.getElem?_set_ne (by omega)]
    exact h0
theorem neg1_rks (P : List Nat) (n : Nat) : neg1 n n = rks P 0 n := by
  apply List.ext_getElem?
  intro i
  by_cases hi : i < n
  · rw [rks_at hi]
    simp [neg1, rk, hi]
  · rw [List.getElem?_eq_none (by rw [neg1_len (Nat.le_refl _)]; omega), List.getElem?_eq_none (by rw [rks_len]; omega)]
theorem rank_loop {P : List Nat} {n : Nat} (hnd : P.Nodup) (hlt : ∀ x ∈ P, x < n) {post : RV} (hpost : IsInts post (P.map Int.ofNat)) (b : List Int) (kk M : Nat) (p1 : AV) (o0 : Option Ob) (Q : Option (ARes × Hp) → Prop)
    (next : ∀ h, h.length = 5 → h[0]? = o0 → DB n (rks P P.length n) b h → Q (ssa_Doms_p63 kk (.rv post) p1 (.ptr 2 0 0) (.ptr 4 0 0) h)) :
    ∀ (m i N : Nat) (h : Hp), i + m = P.length → m < N → h.length = 5 → h[0]? = o0 → DB n (rks P i n) b h → Q (ssa_Doms_l500 kk N M (.rv post) p1 (.ptr 2 0 0) (.ptr 4 0 0) (.rv post) P.length i h) := by
  have hsh := hpost.short
  rw [List.length_map] at hsh
  intro m
  induction m with
  | zero =>
    intro i N h hi hN hlen h0 d
    obtain ⟨N, rfl⟩ : ∃ q, N = q + 1 := ⟨N - 1, by omega⟩
    have : i = P.length := by omega
    subst this
    rw [ssa_Doms_l500_eq, bsp_not (decide_eq_false (by omega))]
    exact next h hlen h0 d
  | succ m ih =>
    intro i N h hi hN hlen h0 d
    obtain ⟨N, rfl⟩ : ∃ q, N = q + 1 := ⟨N - 1, by omega⟩
    have hil : i < P.length := by omega
    have hat : i < (P.map Int.ofNat).length := by simpa using hil
    have hval : (P.map Int.ofNat)[i] = ((P[i] : Nat) : Int) := by simp
    have hxl := hlt _ (List.getElem_mem hil)
    have e1 : ((rks P i n).map ai).set P[i] (ai i) = (rks P (i + 1) n).map ai := by
      rw [← rks_set hnd hil hxl, List.map_set]
    rw [ssa_Doms_l500_eq, bsp_of (decide_eq_true (by omega)), hpost.at hat, hval, ldv_at d.o2 (by rfl), sl_at hxl, stv_at d.o1 (by rw [List.length_map, rks_len]; exact hxl) (by rfl) (by rfl), e1, wri_succ (by omega)]
    refine ih (i + 1) N _ (by omega) (by omega) (by simp [hlen]) ?_ ⟨get_set_eq d.o1, get_set_ne (by omega) d.o2, get_set_ne (by omega) d.o3, get_set_ne (by omega) d.o4⟩
    rw [List.getElem?_set_ne (by omega)]
    exact h0
end Go.Proofs.Ytknphnmhjmejaaa
