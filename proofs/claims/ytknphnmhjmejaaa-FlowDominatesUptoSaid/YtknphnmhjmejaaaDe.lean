/-  The walk of immediate dominators: turn upon turn, until nothing turns. No conditions. -/
import Derived.Test.YtknphnmhjmejaaaDd
namespace Go.Proofs.Ytknphnmhjmejaaa
set_option linter.unusedVariables false
theorem sum_bound {f : Nat → Nat} {c : Nat} : ∀ l : List Nat, (∀ y ∈ l, f y ≤ c) → (l.map f).sum ≤ l.length * c
  | [], _ => by simp
  | x :: l, h => by
    have h1 := sum_bound l fun y hy => h y (by simp [hy])
    have h2 := h x (by simp)
    simp only [List.map_cons, List.sum_cons, List.length_cons, Nat.add_mul]
    omega
theorem ints_vcells {l : RV} {xs : List Int} (k : IsInts l xs) : vcells (.rv l) = some [.rv l] := by
  cases k <;> rfl
section
variable {G : Gr} {P : List Nat} {n : Nat} {par : Par} {h : Hp}
theorem phi_le (g : GrP G P n) (k : Inv G par) : phi G P par ≤ P.length * P.length := by
  refine sum_bound P fun x hx => ?_
  unfold phv
  split
  · rename_i y hy
    have hN : G.N y := by
      by_cases e : x = 0
      · subst e
        rw [k.root] at hy
        cases hy
        exact G.n0
      · exact (k.up x y e hy).2.1
    rw [g.num]
    exact List.idxOf_lt_length_iff.2 ((g.mem y).1 hN)
  · exact Nat.zero_le _
/-- What is so when nothing turns any more. -/
structure Done (G : Gr) (par : Par) : Prop where
  k : Inv G par
  hN : ∀ x, par x ≠ none → G.N x
  all : ∀ b, G.N b → par b ≠ none
  fix : ∀ b q, G.N b → b ≠ 0 → par b = some q → IsMeet G par b q
theorem pass_loop {bs : List Blk} (g : GrP G P bs.length) (hpr : G.pr = prd bs) (hl : bs.length ≤ 4096) (hpreds : ∀ (x : Nat) (b : Blk), bs[x]? = some b → ∀ z ∈ b.preds, ∃ q : Nat, z = q ∧ q < bs.length) (h0m : G.num 0 + 1 = P.length)
    {post p r v b : RV} (hpost : IsInts post (P.map Int.ofNat)) (hb : IsRows 6 IsBlk b bs) (kk M1 : Nat) (hkk : kk = big) :
    ∀ (w N : Nat) (par : Par) (fo : Nat) (h : Hp), P.length * P.length - phi G P par ≤ w → w + 1 < N → Kept G par (G.num 0) → (∀ x, par x ≠ none → G.N x) → DH P bs.length par h → h[0]? = some ⟨0, 1, [.rv p, .rv r, .rv v, .rv b]⟩ →
      h[5]? = some ⟨0, 1, [.func id_ssa_Doms_c1 [] [.ptr 2 0 0, .ptr 4 0 0]]⟩ → h[fo]? = some ⟨0, 1, [ab true]⟩ → 6 ≤ fo →
      ∃ par' h', Done G par' ∧ DH P bs.length par' h' ∧ ssa_Doms_l4084 kk N M1 (.rv post) (.ptr 0 0 0) (.ptr 4 0 0) (.ptr 5 0 0) (.ptr fo 0 0) h = ssa_Doms_p511 kk (.ptr 4 0 0) h' := by
  intro w
  induction w using Nat.strongRecOn with
  | _ w ih =>
    intro N par fo h hw hN K hNn d o0 o5 of f6
    obtain ⟨N, rfl⟩ : ∃ q, N = q + 1 := ⟨N - 1, by omega⟩
    have hfl := get_lt of
    have hbk : ∀ h : Hp, G_slices_Backward_int [.rv post] h = some (.ret (.func id_slices_Backward_c1_int [] [.ptr h.length 0 0]), h ++ [⟨0, 1, [.rv post]⟩]) := by
      intro h
      unfold G_slices_Backward_int
      rw [slices_Backward_int_eq, ints_vcells hpost]
      rfl
    have hrf : ∀ {R : Type} (x : AV) (K : AV → Option R), rfA ssa_Doms_G (.func id_slices_Backward_c1_int [] [x]) K = K x := fun x K => rfl
    have hbn : ∀ {R : Type} (K : Nat → Option R), bkn (.rv post) K = K P.length := by
      intro R K
      have hs := hpost.short
      unfold bkn
      rw [hpost.len, if_pos (by unfold room; omega)]
      simp
    rw [ssa_Doms_l4084_eq, ldb_at of (by rfl), bsp_of rfl, stv_at of (by simp) (by rfl) (by rfl), callG_ret (hbk _), hrf, ldv_at (get_new _) (by rfl), hbn]
    have hmin : min P.length (G.num 0) = G.num 0 := by omega
    refine turn_loop (p := p) (r := r) (v := v) (par0 := par) (fo := fo) (bo := (h.set fo ⟨0, 1, [ab false]⟩).length) g hpr hl hpreds h0m hpost hb kk N M1 hkk _ _ (fun o => ∃ par' h', Done G par' ∧ DH P bs.length par' h' ∧ o = ssa_Doms_p511 kk (.ptr 4 0 0) h') (fun par2 fl2 h2 t2 w2 => ?_) P.length par false _ (Nat.le_refl _) ?_ ?_
    · have o6 : (h2 ++ [⟨0, 1, [ab fl2]⟩])[h2.length]? = some ⟨0, 1, [ab fl2]⟩ := get_new _
      have hst : stv 1 (h2 ++ [⟨0, 1, [.rv (.bool false)]⟩]) (.ptr h2.length 0 0) (.rv (.bool fl2)) = fun (K : Hp → Option (ARes × Hp)) => K (h2 ++ [⟨0, 1, [ab fl2]⟩]) := by
        funext K
        rw [stv_at (get_new _) (by simp) (by rfl) (by rfl)]
        simp
      have hl6 : 6 ≤ h2.length := Nat.le_of_lt (Nat.lt_of_le_of_lt w2.b6 (get_lt w2.ob))
      have d2 : DH P bs.length par2 (h2 ++ [⟨0, 1, [ab fl2]⟩]) := ⟨get_old w2.d.o1 _, get_old w2.d.o2 _, get_old w2.d.o3 _, get_old w2.d.o4 _⟩
      rw [ssa_Doms_b261414_nil, ldb_at w2.of (by rfl)]
      simp only [nwc, hst]
      cases fl2 with
      | false =>
        obtain ⟨N, rfl⟩ : ∃ q, N = q + 1 := ⟨N - 1, by omega⟩
        refine ⟨par2, _, ⟨t2.K.k, t2.hN, fun b hb => t2.K.was b hb (Nat.zero_le _), fun b q hb b0 hq => ?_⟩, d2, ?_⟩
        · obtain ⟨c, h1, h2⟩ := (t2.same rfl).2 b hb b0 (Nat.zero_le _)
          rw [h1] at hq
          cases hq
          exact h2
        · rw [ssa_Doms_l4084_eq, ldb_at o6 (by rfl), bsp_not rfl]
      | true =>
        have h1 := t2.more rfl
        have h3 := phi_le g t2.K.k
        exact ih (P.length * P.length - phi G P par2) (by omega) N par2 _ _ (Nat.le_refl _) (by omega) (t2.K.again rfl) t2.hN d2 (get_old w2.o0 _) (get_old w2.o5 _) o6 hl6
    · rw [hmin]
      refine ⟨K, hNn, fun _ => ⟨rfl, fun y hy y0 h => ?_⟩, fun h => (by cases h)⟩
      have := G.top y hy y0
      omega
    · exact ⟨⟨get_old (get_set_ne (by omega) d.o1) _, get_old (get_set_ne (by omega) d.o2) _, get_old (get_set_ne (by omega) d.o3) _, get_old (get_set_ne (by omega) d.o4) _⟩, get_old (get_set_ne (by omega) o0) _, get_old (get_set_ne (by omega) o5) _, get_old (get_set_eq of) _, f6, get_new _, by simp; omega, by simp; omega⟩
end
end Go.Proofs.Ytknphnmhjmejaaa
