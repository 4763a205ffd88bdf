/-  The walk of immediate dominators: one block's, out of what leads to it. No conditions. -/
import Derived.Test.YtknphnmhjmejaaaDb
namespace Go.Proofs.Ytknphnmhjmejaaa
set_option linter.unusedVariables false
/-- What is known when some of what leads to a block has been looked at. -/
def Acc (G : Gr) (par : Par) (l : List Nat) (d : Int) : Prop :=
  (d = -1 ∧ ∀ p ∈ l, par p = none) ∨ ∃ c : Nat, d = c ∧ Nd G par c ∧ ∀ e, Anc par c e ↔ ∀ p ∈ l, par p ≠ none → Anc par p e
theorem dlv_neg {par : Par} {x : Nat} : dlv par x < 0 ↔ par x = none := by
  unfold dlv
  split
  · rename_i y h; rw [h]; simp
  · rename_i h; rw [h]; simp
section
variable {G : Gr} {P : List Nat} {n : Nat} {par : Par} {h : Hp}
theorem Acc.skip {l : List Nat} {d : Int} (a : Acc G par l d) {p : Nat} (hp : par p = none) : Acc G par (l ++ [p]) d := by
  rcases a with ⟨h1, h2⟩ | ⟨c, h1, h2, h3⟩
  · refine .inl ⟨h1, fun q hq => ?_⟩
    rcases List.mem_append.1 hq with hq | hq
    · exact h2 q hq
    · rw [List.mem_singleton.1 hq]; exact hp
  · refine .inr ⟨c, h1, h2, fun e => (h3 e).trans ⟨fun h4 q hq hs => ?_, fun h4 q hq hs => h4 q (List.mem_append_left _ hq) hs⟩⟩
    rcases List.mem_append.1 hq with hq | hq
    · exact h4 q hq hs
    · rw [List.mem_singleton.1 hq] at hs; exact absurd hp hs
theorem Acc.add {l : List Nat} {d : Int} (a : Acc G par l d) {p : Nat} (hp : Nd G par p) : (d < 0 → Acc G par (l ++ [p]) p) ∧ (¬ d < 0 → ∃ c : Nat, d = c ∧ Nd G par c ∧ ∀ c', IsM G par c p c' → Acc G par (l ++ [p]) c') := by
  rcases a with ⟨h1, h2⟩ | ⟨c, h1, h2, h3⟩
  · refine ⟨fun _ => .inr ⟨p, rfl, hp, fun e => ⟨fun h4 q hq hs => ?_, fun h4 => h4 p (by simp) hp.2⟩⟩, fun h => absurd (show d < 0 by omega) h⟩
    rcases List.mem_append.1 hq with hq | hq
    · exact absurd (h2 q hq) hs
    · rw [List.mem_singleton.1 hq]; exact h4
  · refine ⟨fun h => by omega, fun _ => ⟨c, h1, h2, fun c' hm => .inr ⟨c', rfl, hm.1, fun e => (hm.2 e).trans ⟨fun ⟨h4, h5⟩ q hq hs => ?_, fun h4 => ⟨(h3 e).2 fun q hq hs => h4 q (List.mem_append_left _ hq) hs, h4 p (by simp) hp.2⟩⟩⟩⟩⟩
    rcases List.mem_append.1 hq with hq | hq
    · exact (h3 e).1 h4 q hq hs
    · rw [List.mem_singleton.1 hq]; exact h5
theorem preds_loop (g : GrP G P n) (hn : n ≤ 4096) (k : Inv G par) (hN : ∀ x, par x ≠ none → G.N x) (d : DH P n par h) (h5 : h[5]? = some ⟨0, 1, [.func id_ssa_Doms_c1 [] [.ptr 2 0 0, .ptr 4 0 0]]⟩) (kk N1 M1 N2 : Nat) (P2 y1 y2 y6 y10 y11 y54 x11 : AV) (b M3 : Nat)
    {s : RV} {ps : List Int} (hs : IsInts s ps) (hps : ∀ x ∈ ps, ∃ q : Nat, x = q ∧ q < n) (Q : Option (ARes × Hp) → Prop)
    (next : ∀ e, Acc G par (ps.map Int.toNat) e → Q (ssa_Doms_p8365271 kk N1 M1 N2 P2 y1 y2 y6 y10 y11 y54 (.ptr 4 0 0) x11 b e h)) :
    ∀ (m j N3 : Nat) (e : Int), j + m = ps.length → m < N3 → Acc G par ((ps.take j).map Int.toNat) e →
      Q (ssa_Doms_l66922164 kk N1 M1 N2 P2 y1 y2 y6 y10 y11 y54 N3 M3 (.ptr 4 0 0) (.ptr 5 0 0) x11 b e (.rv s) ps.length j h) := by
  have hsh := hs.short
  intro m
  induction m with
  | zero =>
    intro j N3 e hj hN3 ha
    obtain ⟨N3, rfl⟩ : ∃ q, N3 = q + 1 := ⟨N3 - 1, by omega⟩
    rw [ssa_Doms_l66922164_eq, bsp_not (decide_eq_false (by omega))]
    rw [List.take_of_length_le (by omega)] at ha
    exact next e ha
  | succ m ih =>
    intro j N3 e hj hN3 ha
    obtain ⟨N3, rfl⟩ : ∃ q, N3 = q + 1 := ⟨N3 - 1, by omega⟩
    have hjl : j < ps.length := by omega
    obtain ⟨q, hq, hql⟩ := hps ps[j] (List.getElem_mem hjl)
    have htake : (ps.take (j + 1)).map Int.toNat = (ps.take j).map Int.toNat ++ [q] := by
      rw [List.take_add_one, List.getElem?_eq_getElem hjl, hq]
      simp
    have step : ∀ e, Acc G par ((ps.take j).map Int.toNat ++ [q]) e → Q (ssa_Doms_p535377319 kk N1 M1 N2 P2 y1 y2 y6 y10 y11 y54 N3 M3 (.ptr 4 0 0) (.ptr 5 0 0) x11 b e (.rv s) ps.length j h) := by
      intro e ha
      rw [ssa_Doms_p535377319_eq, wri_succ (by omega)]
      exact ih (j + 1) N3 e (by omega) (by omega) (by rw [htake]; exact ha)
    rw [ssa_Doms_l66922164_eq, bsp_of (decide_eq_true (by omega)), hs.at hjl, hq, d.dom hql]
    by_cases hp : par q = none
    · rw [bsp_of (decide_eq_true (dlv_neg.2 hp))]
      exact step e (ha.skip hp)
    · rw [bsp_not (decide_eq_false (fun h => hp (dlv_neg.1 h)))]
      have hnd : Nd G par q := ⟨hN q hp, hp⟩
      obtain ⟨a1, a2⟩ := ha.add hnd
      by_cases he : e < 0
      · rw [bsp_of (decide_eq_true he)]
        exact step q (a1 he)
      · obtain ⟨c, rfl, hc, hm⟩ := a2 he
        obtain ⟨c', hc', hrun⟩ := meet_spec g k d hc hnd hn
        rw [bsp_not (decide_eq_false he), ldv_at h5 (by rfl), callV_gen (G := G_ssa_Doms_c1) (by rfl) (by exact hrun), asInt_i]
        exact step c' (hm c' hc')
end
end Go.Proofs.Ytknphnmhjmejaaa
