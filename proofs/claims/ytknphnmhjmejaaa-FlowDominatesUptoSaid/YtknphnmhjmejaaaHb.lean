/-  What the program's look at the form of blocks tells. No conditions. -/
import Derived.Test.YtknphnmhjmejaaaHa
namespace Go.Proofs.Ytknphnmhjmejaaa
set_option linter.unusedVariables false
abbrev blkCells (b : Blk) (a p s t : RV) : List AV := [.rv (I b.kind), .rv (I b.n), .rv a, .rv p, .rv s, .rv t]
/-- A block that is copied into a variable. -/
theorem blk_copy {b : RV} {bs : List Blk} (hb : IsRows 6 IsBlk b bs) {i : Nat} (hi : i < bs.length) : ∃ a p s t, IsInts a bs[i].args ∧ IsInts p bs[i].preds ∧ IsInts s bs[i].succs ∧ IsInts t bs[i].list ∧
    ∀ {R : Type} (h : Hp) (K : AV → Hp → Option R), (ixa 6 (.rv b) i fun q => ldg 6 h q fun v => nwc 1 (some [.rv (.int .i64 0), .rv (.int .i64 0), .rv .nils, .rv .nils, .rv .nils, .rv .nils]) h fun q2 h2 => stv 6 h2 q2 v fun h3 => K q2 h3) =
      K (.ptr h.length 0 0) (h ++ [⟨0, 1, blkCells bs[i] a p s t⟩]) := by
  have h0 : ∃ a p s t rest, IsInts a bs[i].args ∧ IsInts p bs[i].preds ∧ IsInts s bs[i].succs ∧ IsInts t bs[i].list ∧ ∀ (R : Type) (K : AV → Option R), ixa 6 (.rv b) i K = K (.rv (.rop (I bs[i].kind :: I bs[i].n :: a :: p :: s :: t :: rest))) := by
    cases hb with
    | nil => simp at hi
    | mk r hl =>
      obtain ⟨c, rest, h1, h2, ⟨a, p, s, t, rfl, k1, k2, k3, k4⟩⟩ := r.at hi
      refine ⟨a, p, s, t, rest, k1, k2, k3, k4, fun R K => ?_⟩
      have : ((i : Int) < bs.length) := by omega
      simp [ixa, hi, h1]
  obtain ⟨a, p, s, t, rest, k1, k2, k3, k4, hx⟩ := h0
  refine ⟨a, p, s, t, k1, k2, k3, k4, fun h K => ?_⟩
  rw [hx, ldg6, var_agg (n := 6) (by rfl) (by rfl) (by simp [k1.one, k2.one, k3.one, k4.one, oneI])]
/-- A check's end: some new variables, and an error thrown or none. -/
def Ends (ok : Bool) (e : Int) (h : Hp) (o : Option (ARes × Hp)) : Prop := ∃ l, o = some (if ok then .ret undefA else .pan (.rv (errA e)), h ++ l)
theorem Ends.ret {e : Int} {h : Hp} {l : Hp} {b : Bool} (hb : b = true) : Ends b e h (some (.ret undefA, h ++ l)) := ⟨l, by rw [hb]; rfl⟩
theorem Ends.pan {e : Int} {h : Hp} {l : Hp} {b : Bool} (hb : b = false) : Ends b e h (some (.pan (.rv (errA e)), h ++ l)) := ⟨l, by rw [hb]; rfl⟩
def shpOk (bs : List Blk) (b : Blk) : Bool := decide (0 ≤ b.kind ∧ b.kind ≤ 4) && (b.kind != 0 || (b.preds.length + b.succs.length == 0)) && okNums bs b.preds && okNums bs b.succs
theorem shpOk_eq (bs : List Blk) (b : Blk) : shpOk bs b = blkOk bs b := by
  unfold shpOk blkOk
  by_cases h0 : b.kind = 0
  · rw [if_pos h0]
    cases h1 : b.preds with
    | nil => cases h2 : b.succs <;> simp [h0, okNums]
    | cons x l => simp [h0]
  · rw [if_neg h0]
    have : decide (0 ≤ b.kind ∧ b.kind ≤ 4) = decide (0 ≤ succsOf b.kind) := by
      unfold succsOf
      by_cases e1 : b.kind = 1
      · simp [e1]
      by_cases e2 : b.kind = 2
      · simp [e2]
      by_cases e3 : b.kind = 3
      · simp [e3]
      by_cases e4 : b.kind = 4
      · simp [e4]
      · simp [e1, e2, e3, e4]; omega
    rw [this]
    have e : (b.kind != 0) = true := by simpa using h0
    rw [e]
    simp
section
variable {ok : Nat} {cells : List AV} {b : RV} {bs : List Blk}
theorem shape_loop (hc : cells[5]? = some (.rv b)) (hb : IsRows 6 IsBlk b bs) (h : Hp) (ho : h[ok]? = some ⟨0, 1, cells⟩) (k M : Nat) : ∀ (m i N : Nat) (l : Hp), i + m = bs.length → m < N →
    Ends ((bs.drop i).all (shpOk bs)) 130 h (ssa_checker_shape_l28 k N M (.ptr ok 0 0) (.rv b) bs.length i (h ++ l)) := by
  have hs := hb.short
  intro m
  induction m with
  | zero =>
    intro i N l hi hN
    obtain ⟨N, rfl⟩ : ∃ N', N = N' + 1 := ⟨N - 1, by omega⟩
    rw [ssa_checker_shape_l28_eq, bsp_not (decide_eq_false (by omega)), List.drop_eq_nil_of_le (by omega)]
    exact .ret rfl
  | succ m ih =>
    intro i N l hi hN
    obtain ⟨N, rfl⟩ : ∃ N', N = N' + 1 := ⟨N - 1, by omega⟩
    have hlt : i < bs.length := by omega
    obtain ⟨a, p, s, t, k1, k2, k3, k4, hcp⟩ := blk_copy hb hlt
    have hs2 := k2.short
    have hs3 := k3.short
    rw [ssa_checker_shape_l28_eq, bsp_of (decide_eq_true (by omega)), hcp, List.drop_eq_getElem_cons hlt, List.all_cons]
    have hq := get_new (h := h ++ l) ⟨0, 1, blkCells bs[i] a p s t⟩
    have hlen : h.length + l.length = (h ++ l).length := by simp
    generalize hqq : (h ++ l).length = q at hq
    generalize hl1 : l ++ [(⟨0, 1, blkCells bs[i] a p s t⟩ : Ob)] = l1
    have e1 : h ++ l ++ [(⟨0, 1, blkCells bs[i] a p s t⟩ : Ob)] = h ++ l1 := by rw [← hl1, List.append_assoc]
    rw [e1] at hq ⊢
    have hq' : ∀ l2, (h ++ (l1 ++ l2))[q]? = some ⟨0, 1, blkCells bs[i] a p s t⟩ := fun l2 => by rw [← List.append_assoc]; exact get_old hq l2
    have ho' : ∀ l2, (h ++ l2)[ok]? = some ⟨0, 1, cells⟩ := fun l2 => get_old ho l2
    have last : ∀ l2, okNums bs bs[i].preds = true → okNums bs bs[i].succs = true → decide (0 ≤ bs[i].kind ∧ bs[i].kind ≤ 4) = true → (bs[i].kind != 0 || (bs[i].preds.length + bs[i].succs.length == 0)) = true →
        Ends (shpOk bs bs[i] && (bs.drop (i + 1)).all (shpOk bs)) 130 h (ssa_checker_shape_p231 k N M (.ptr ok 0 0) (.rv b) bs.length i (h ++ l2)) := by
      intro l2 g1 g2 g3 g4
      have : shpOk bs bs[i] = true := by unfold shpOk; rw [g1, g2, g3, g4]; rfl
      rw [this, Bool.true_and, ssa_checker_shape_p231_eq, wri_succ (by omega)]
      exact ih (i + 1) N l2 (by omega) (by omega)
    have third : decide (0 ≤ bs[i].kind ∧ bs[i].kind ≤ 4) = true → (bs[i].kind != 0 || (bs[i].preds.length + bs[i].succs.length == 0)) = true →
        Ends (shpOk bs bs[i] && (bs.drop (i + 1)).all (shpOk bs)) 130 h (ssa_checker_shape_p3687 k N M (.ptr ok 0 0) (.ptr q 0 0) (.rv b) bs.length i (h ++ l1)) := by
      intro g3 g4
      obtain ⟨l2, hl2⟩ := all_spec (h := h ++ l1) k2 rfl (asks_isBlock (ho' l1) hc hb bs[i].preds)
      rw [ssa_checker_shape_p3687_eq, pad_ptr, ldv_at hq rfl, callG_ret hl2, asBool_b, ← okNums_eq, List.append_assoc]
      cases g1 : okNums bs bs[i].preds with
      | false =>
        rw [bsp_not rfl, must_call, if_neg (by simp)]
        exact .pan (by unfold shpOk; rw [g1]; simp)
      | true =>
        obtain ⟨l3, hl3⟩ := all_spec (h := h ++ (l1 ++ l2)) k3 rfl (asks_isBlock (ho' _) hc hb bs[i].succs)
        rw [bsp_of rfl, pad_ptr, ldv_at (hq' l2) rfl, callG_ret hl3, asBool_b, ← okNums_eq, must_call, List.append_assoc]
        cases g2 : okNums bs bs[i].succs with
        | false => exact .pan (by unfold shpOk; rw [g2]; simp)
        | true => exact last _ g1 g2 g3 g4
    have second : decide (0 ≤ bs[i].kind ∧ bs[i].kind ≤ 4) = true →
        Ends (shpOk bs bs[i] && (bs.drop (i + 1)).all (shpOk bs)) 130 h (ssa_checker_shape_p1843 k N M (.ptr ok 0 0) (.ptr q 0 0) (.rv b) bs.length i (h ++ l1)) := by
      intro g3
      rw [ssa_checker_shape_p1843_eq, pad_ptr, ldi_at hq rfl]
      by_cases h0 : bs[i].kind = 0
      · rw [bsp_not (by simpa using h0), pad_ptr, ldv_at hq rfl, k2.len, pad_ptr, ldv_at hq rfl, k3.len, must_call, wri_small (n := (bs[i].preds.length : Int) + bs[i].succs.length) (by omega) (by omega)]
        have e : (((bs[i].preds.length : Int) + bs[i].succs.length) == 0) = (bs[i].preds.length + bs[i].succs.length == 0) := by
          rw [Bool.eq_iff_iff, beq_iff_eq, beq_iff_eq]; omega
        rw [e]
        cases g4 : (bs[i].preds.length + bs[i].succs.length == 0) with
        | false => exact .pan (by unfold shpOk; rw [g4]; simp [h0])
        | true => exact third g3 (by rw [g4]; simp)
      · rw [bsp_of (by simpa using h0), must_call, if_pos rfl]
        exact third g3 (by simp [h0])
    rw [pad_ptr, ldi_at hq rfl]
    by_cases g : 0 ≤ bs[i].kind
    · rw [bsp_of (decide_eq_true g), pad_ptr, ldi_at hq rfl, must_call]
      by_cases g5 : bs[i].kind ≤ 4
      · rw [if_pos (decide_eq_true g5)]
        exact second (decide_eq_true ⟨g, g5⟩)
      · rw [if_neg (by simpa using g5)]
        exact .pan (by unfold shpOk; rw [decide_eq_false (fun h => g5 h.2)]; rfl)
    · rw [bsp_not (decide_eq_false g), must_call, if_neg (by simp)]
      exact .pan (by unfold shpOk; rw [decide_eq_false (fun h => g h.1)]; rfl)
theorem shape_spec (hc : cells[5]? = some (.rv b)) (hb : IsRows 6 IsBlk b bs) (h : Hp) (ho : h[ok]? = some ⟨0, 1, cells⟩) : Ends (formOk bs) 130 h (G_ssa_checker_shape [.ptr ok 0 0] h) := by
  have hs := hb.short
  have fin : ∀ x : Bool, formOk bs = false → Ends (formOk bs) 130 h (some (.pan (.rv (errA 130)), h)) := fun _ hf => by
    have := Ends.pan (e := 130) (h := h) (l := []) hf
    simpa using this
  unfold G_ssa_checker_shape
  rw [ssa_checker_shape_eq, nck_ptr, pad_ptr, pad_ptr, ldv_at ho hc, hb.len]
  by_cases h0 : bs.length = 0
  · rw [bsp_not (decide_eq_false (by omega)), must_call, if_neg (by simp)]
    exact fin true (by simp [formOk, h0])
  · rw [bsp_of (decide_eq_true (by omega)), nck_ptr, pad_ptr, pad_ptr, ldv_at ho hc, hb.len, must_call]
    by_cases h1 : bs.length ≤ 4096
    · have := shape_loop hc hb h ho big h.length bs.length 0 big [] (by omega) (by rw [big_val]; omega)
      have e : formOk bs = bs.all (shpOk bs) := by
        have e1 : bs.all (shpOk bs) = bs.all (blkOk bs) := by congr 1; funext x; exact shpOk_eq bs x
        rw [e1]
        unfold formOk
        rw [decide_eq_true (show 0 < bs.length ∧ bs.length ≤ 4096 by omega)]
        rfl
      rw [if_pos (decide_eq_true (by omega)), ssa_checker_shape_p3_eq, nck_ptr, pad_ptr, pad_ptr, ldv_at ho hc, hb.len, e, show ((0 : Int)) = ((0 : Nat) : Int) from rfl]
      simpa using this
    · rw [if_neg (by simp; omega)]
      exact fin true (by simp [formOk]; intro _ h; omega)
end
end Go.Proofs.Ytknphnmhjmejaaa
