/-  The walk of immediate dominators: the graph, and what leads to a block. No conditions. -/
import Derived.Test.YtknphnmhjmejaaaDa
namespace Go.Proofs.Ytknphnmhjmejaaa
set_option linter.unusedVariables false
/-- What leads to a block. -/
def prd (bs : List Blk) (x : Nat) : List Nat := match bs[x]? with | some b => b.preds.map Int.toNat | none => []
theorem prd_at {bs : List Blk} {x : Nat} (hx : x < bs.length) : prd bs x = bs[x].preds.map Int.toNat := by
  simp [prd, hx]
theorem prd_mem {bs : List Blk} (hf : formOk bs = true) {x y : Nat} (hy : y < bs.length) : x ∈ prd bs y ↔ (x : Int) ∈ bs[y].preds := by
  rw [prd_at hy, List.mem_map]
  constructor
  · rintro ⟨n, hn, e⟩
    obtain ⟨m, rfl, _⟩ := formOk_preds hf y _ (List.getElem?_eq_getElem hy) n hn
    have : m = x := by simpa using e
    rw [← this]
    exact hn
  · exact fun h => ⟨_, h, by simp⟩
theorem sucs_mem {bs : List Blk} (hf : formOk bs = true) {x y : Nat} (hx : x < bs.length) : y ∈ sucs bs x ↔ (y : Int) ∈ bs[x].succs := by
  rw [sucs_at hx, List.mem_map]
  constructor
  · rintro ⟨n, hn, e⟩
    obtain ⟨m, rfl, _⟩ := formOk_succs hf x _ (List.getElem?_eq_getElem hx) n hn
    have : m = y := by simpa using e
    rw [← this]
    exact hn
  · exact fun h => ⟨_, h, by simp⟩
theorem prd_sucs {bs : List Blk} (hf : formOk bs = true) (hq : FlowOk bs) {x y : Nat} (hx : x < bs.length) (hy : y < bs.length) : y ∈ sucs bs x ↔ x ∈ prd bs y := by
  have gx := List.getElem?_eq_getElem hx
  have gy := List.getElem?_eq_getElem hy
  have hole : ∀ {z : Nat} (hz : z < bs.length), bs[z].kind = 0 → bs[z].preds = [] ∧ bs[z].succs = [] := fun hz h => blkOk_hole (formOk_mem hf (List.getElem_mem hz)) h
  rw [sucs_mem hf hx, prd_mem hf hy]
  constructor
  · intro h
    have hk : bs[x].kind ≠ 0 := fun e => by rw [(hole hx e).2] at h; cases h
    have := (hq.join x _ gx hk).2.1 _ h bs[y] (by simp)
    have h2 : 0 < bs[x].succs.count (y : Int) := List.count_pos_iff.2 h
    exact List.count_pos_iff.1 (by omega)
  · intro h
    have hk : bs[y].kind ≠ 0 := fun e => by rw [(hole hy e).1] at h; cases h
    have := (hq.join y _ gy hk).2.2 _ h bs[x] (by simp)
    exact List.count_pos_iff.1 (by omega)
/-- The graph of what is reached. -/
theorem IsPost.behind {bs : List Blk} {P : List Nat} (hP : IsPost bs P) {x : Nat} (hx : x ∈ P) (h0 : x ≠ 0) : ∃ t, t ∈ P ∧ x ∈ sucs bs t ∧ P.idxOf x < P.idxOf t := by
  obtain ⟨S, h1⟩ := hP
  obtain ⟨N, Q, k⟩ := h1.found
  have e : Q = P := by rw [k.p]; rfl
  subst e
  have hnd : Q.Nodup := k.qd
  have hlx : Q.idxOf x < Q.length := List.idxOf_lt_length_iff.2 hx
  have hsplit : Q = Q.take (Q.idxOf x) ++ x :: Q.drop (Q.idxOf x + 1) := by
    conv => lhs; rw [← List.take_append_drop (Q.idxOf x) Q, List.drop_eq_getElem_cons hlx, List.getElem_idxOf hlx]
  rcases k.from_ _ _ x hsplit with h | ⟨t, ht, hs⟩
  · exact absurd (by simpa using h) h0
  · refine ⟨t, List.mem_of_mem_drop ht, hs, ?_⟩
    obtain ⟨j, hj, hj2⟩ := List.getElem_of_mem ht
    rw [List.getElem_drop] at hj2
    have hjl : Q.idxOf x + 1 + j < Q.length := by rw [List.length_drop] at hj; omega
    have := List.Nodup.idxOf_getElem hnd _ hjl
    rw [hj2] at this
    omega
open Classical in
noncomputable def grT (bs : List Blk) (P : List Nat) (x : Nat) : Nat := if h : ∃ t, t ∈ P ∧ x ∈ sucs bs t ∧ P.idxOf x < P.idxOf t then h.choose else 0
noncomputable def grOf {bs : List Blk} {P : List Nat} (hf : formOk bs = true) (hq : FlowOk bs) (hP : IsPost bs P) : Gr where
  N x := x ∈ P
  num x := P.idxOf x
  pr := prd bs
  t := grT bs P
  n0 := (hP.mem 0).2 (.refl 0)
  inj a b ha hb h := by
    have h1 := List.getElem_idxOf (List.idxOf_lt_length_iff.2 ha)
    have h2 := List.getElem_idxOf (List.idxOf_lt_length_iff.2 hb)
    rw [← h1, ← h2]
    simp only [h]
  top b hb h0 := by
    obtain ⟨P0, e⟩ := hP.last
    have hl : 0 < bs.length := by
      simp only [formOk, Bool.and_eq_true, decide_eq_true_eq] at hf
      exact hf.1.1
    have hnd := (hP.facts (formOk_succs hf) hl).1
    have h1 : P.idxOf 0 = P0.length := by
      have h2 : P0.length < P.length := by rw [e]; simp
      have h3 := List.Nodup.idxOf_getElem hnd _ h2
      have h4 : P[P0.length] = 0 := by simp [e]
      rw [h4] at h3
      exact h3
    have h2 : P.idxOf b < P.length := List.idxOf_lt_length_iff.2 hb
    have h3 : P.length = P0.length + 1 := by rw [e]; simp
    have h4 : P.idxOf b ≠ P.idxOf 0 := fun h => h0 (by
      have k1 := List.getElem_idxOf h2
      have k2 := List.getElem_idxOf (List.idxOf_lt_length_iff.2 ((hP.mem 0).2 (.refl 0)))
      rw [← k1, ← k2]
      simp only [h])
    omega
  pin b hb p hp := by
    have hl : 0 < bs.length := by
      simp only [formOk, Bool.and_eq_true, decide_eq_true_eq] at hf
      exact hf.1.1
    have hbl := (hP.facts (formOk_succs hf) hl).2.1 b hb
    have hp2 := (prd_mem hf hbl).1 hp
    obtain ⟨m, c, e, hc, hk⟩ := (blkOk_nums (formOk_mem hf (List.getElem_mem hbl))).1 _ hp2
    have : m = p := by omega
    subst this
    exact (post_kind hf hq hP hc).2 hk
  tp b hb h0 := by
    have hl : 0 < bs.length := by
      simp only [formOk, Bool.and_eq_true, decide_eq_true_eq] at hf
      exact hf.1.1
    have hlt := (hP.facts (formOk_succs hf) hl).2.1
    have h := hP.behind hb h0
    have h2 := h.choose_spec
    have e : grT bs P b = h.choose := by unfold grT; rw [dif_pos h]
    rw [e]
    exact ⟨(prd_sucs hf hq (hlt _ h2.1) (hlt b hb)).1 h2.2.1, h2.2.2⟩
theorem grP {bs : List Blk} {P : List Nat} (hf : formOk bs = true) (hq : FlowOk bs) (hP : IsPost bs P) : GrP (grOf hf hq hP) P bs.length := by
  have hl : 0 < bs.length := by
    simp only [formOk, Bool.and_eq_true, decide_eq_true_eq] at hf
    exact hf.1.1
  obtain ⟨h1, h2, _⟩ := hP.facts (formOk_succs hf) hl
  exact ⟨fun x => Iff.rfl, fun x => rfl, h2, h1⟩
end Go.Proofs.Ytknphnmhjmejaaa
