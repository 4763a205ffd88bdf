/-  What the flow's weighing tells: some number. No conditions. -/
import Derived.Test.YtknphnmhjmejaaaFa
namespace Go.Proofs.Ytknphnmhjmejaaa
set_option linter.unusedVariables false
def NumPost (o : Option (ARes × Hp)) : Prop := ∃ n h', o = some (.ret (ai n), h')
/-- A program in SSA form. -/
structure Ut where
  codes : List Cd
  bytes : Nat
def IsUt (c : List RV) (u : Ut) : Prop := ∃ p q, c = [p, q] ∧ IsRows 4 IsCd p u.codes ∧ (q = .nils ∧ u.bytes = 0 ∨ ∃ bs, q = .ros bs u.bytes)
theorem IsUt.bytes_len {R : Type} {q : RV} {n : Nat} (k : q = .nils ∧ n = 0 ∨ ∃ bs, q = .ros bs n) (K : Int → Option R) : lna (.rv q) K = K n := by
  rcases k with ⟨rfl, rfl⟩ | ⟨bs, rfl⟩ <;> rfl
theorem cd_at {R : Type} {l : RV} {ds : List Cd} (k : IsRows 4 IsCd l ds) {i : Nat} (hi : i < ds.length) : ∃ p r v b rest, IsInts p ds[i].params ∧ IsInts r ds[i].results ∧ IsRows 5 IsVl v ds[i].values ∧ IsRows 6 IsBlk b ds[i].blocks ∧
    ∀ (K : AV → Option R), ixa 4 (.rv l) i K = K (.rv (.rop (p :: r :: v :: b :: rest))) := by
  obtain ⟨c, rest, _, ⟨p, r, v, b, rfl, h1, h2, h3, h4⟩, hx⟩ := k.at hi
  exact ⟨p, r, v, b, rest, h1, h2, h3, h4, hx⟩
theorem ldg4 {R : Type} {h : Hp} {a b c d : RV} {rest : List RV} (K : AV → Option R) : ldg 4 h (.rv (.rop (a :: b :: c :: d :: rest))) K = K (.agg [.rv a, .rv b, .rv c, .rv d]) := rfl
section
variable {p r v b : RV} {d : Cd} {ou o : Nat} {uc : List AV} {P : RV} {ds : List Cd}
theorem Weight_blocks (hb : IsRows 6 IsBlk b d.blocks) (k N M M' : Nat) (x1 : Int) (i : Nat) (hi : i < 1000000000)
    (outer : ∀ n h, h[ou]? = some ⟨0, 1, uc⟩ → NumPost (w12_Weight_l116 k N M x1 (.ptr ou 0 0) n ((i + 1 : Nat) : Int) h)) :
    ∀ (m j N' : Nat) (n : Int) (h : Hp), j + m = d.blocks.length → m < N' → h[ou]? = some ⟨0, 1, uc⟩ → h[o]? = some ⟨0, 1, [.rv p, .rv r, .rv v, .rv b]⟩ →
      NumPost (w12_Weight_l59708 k N M N' M' x1 (.ptr ou 0 0) n i (.ptr o 0 0) j h) := by
  have hs := hb.short
  have out : ∀ N' n h x9, h[ou]? = some ⟨0, 1, uc⟩ → NumPost (w12_Weight_p238833 k N M N' M' x1 (.ptr ou 0 0) n i (.ptr o 0 0) x9 false h) := by
    intro N' n h x9 hu
    rw [w12_Weight_p238833_eq, bsp_not rfl, w12_Weight_p467_eq, wri_succ (by omega)]
    exact outer n h hu
  intro m
  induction m with
  | zero =>
    intro j N' n h hj hN hu ho
    obtain ⟨N', rfl⟩ : ∃ q, N' = q + 1 := ⟨N' - 1, by omega⟩
    rw [w12_Weight_l59708_eq, pad_ptr, ldv_at ho rfl, hb.len, bsp_not (decide_eq_false (by omega))]
    exact out _ _ _ _ hu
  | succ m ih =>
    intro j N' n h hj hN hu ho
    obtain ⟨N', rfl⟩ : ∃ q, N' = q + 1 := ⟨N' - 1, by omega⟩
    have hlt : j < d.blocks.length := by omega
    obtain ⟨a, q, s, t, rest, k1, k2, k3, k4, hx⟩ := blk_at (R := ARes × Hp) hb hlt
    rw [w12_Weight_l59708_eq, pad_ptr, ldv_at ho rfl, hb.len, bsp_of (decide_eq_true (by omega))]
    by_cases hn : n ≤ x1
    · rw [w12_Weight_p238833_eq, bsp_of (decide_eq_true hn), pad_ptr, ldv_at ho rfl, hx, ldg6, var_agg (n := 6) (by rfl) (by rfl) (by simp [k1.one, k2.one, k3.one, k4.one, oneI])]
      have hp := get_new (h := h) ⟨0, 1, [.rv (I d.blocks[j].kind), .rv (I d.blocks[j].n), .rv a, .rv q, .rv s, .rv t]⟩
      rw [pad_ptr, ldv_at hp rfl, k1.len, pad_ptr, ldv_at hp rfl, k2.len, pad_ptr, ldv_at hp rfl, k3.len, pad_ptr, ldv_at hp rfl, k4.len, wri_succ (by omega)]
      exact ih (j + 1) N' _ _ (by omega) (by omega) (get_old hu _) (get_old ho _)
    · rw [decide_eq_false hn]
      exact out _ _ _ _ hu
theorem Weight_values (hv : IsRows 5 IsVl v d.values) (hb : IsRows 6 IsBlk b d.blocks) (k N M M' : Nat) (hk : 1000000000 < k) (x1 : Int) (i : Nat) (hi : i < 1000000000)
    (outer : ∀ n h, h[ou]? = some ⟨0, 1, uc⟩ → NumPost (w12_Weight_l116 k N M x1 (.ptr ou 0 0) n ((i + 1 : Nat) : Int) h)) :
    ∀ (m j N' : Nat) (n : Int) (h : Hp), j + m = d.values.length → m < N' → h[ou]? = some ⟨0, 1, uc⟩ → h[o]? = some ⟨0, 1, [.rv p, .rv r, .rv v, .rv b]⟩ →
      NumPost (w12_Weight_l59700 k N M N' M' x1 (.ptr ou 0 0) n i (.ptr o 0 0) j h) := by
  have hs := hv.short
  have hs' := hb.short
  have out : ∀ N' n h x9, h[ou]? = some ⟨0, 1, uc⟩ → h[o]? = some ⟨0, 1, [.rv p, .rv r, .rv v, .rv b]⟩ → NumPost (w12_Weight_p238801 k N M N' M' x1 (.ptr ou 0 0) n i (.ptr o 0 0) x9 false h) := by
    intro N' n h x9 hu ho
    rw [w12_Weight_p238801_eq, bsp_not rfl, w12_Weight_p7463_eq]
    exact Weight_blocks hb k N M _ x1 i hi outer d.blocks.length 0 k n h (by omega) (by omega) hu ho
  intro m
  induction m with
  | zero =>
    intro j N' n h hj hN hu ho
    obtain ⟨N', rfl⟩ : ∃ q, N' = q + 1 := ⟨N' - 1, by omega⟩
    rw [w12_Weight_l59700_eq, pad_ptr, ldv_at ho rfl, hv.len, bsp_not (decide_eq_false (by omega))]
    exact out _ _ _ _ hu ho
  | succ m ih =>
    intro j N' n h hj hN hu ho
    obtain ⟨N', rfl⟩ : ∃ q, N' = q + 1 := ⟨N' - 1, by omega⟩
    have hlt : j < d.values.length := by omega
    obtain ⟨a, rest, k1, hx⟩ := vl_at (R := ARes × Hp) hv hlt
    rw [w12_Weight_l59700_eq, pad_ptr, ldv_at ho rfl, hv.len, bsp_of (decide_eq_true (by omega))]
    by_cases hn : n ≤ x1
    · rw [w12_Weight_p238801_eq, bsp_of (decide_eq_true hn), pad_ptr, ldv_at ho rfl, hx, pad_rop, List.drop, List.drop, List.drop, ldv_rop, k1.len, wri_succ (by omega)]
      exact ih (j + 1) N' _ _ (by omega) (by omega) hu ho
    · rw [decide_eq_false hn]
      exact out _ _ _ _ hu ho
end
theorem Weight_outer {P Q : RV} {ds : List Cd} {ou : Nat} (hp : IsRows 4 IsCd P ds) (k M : Nat) (hk : 1000000000 < k) (x1 : Int) : ∀ (m i N : Nat) (n : Int) (h : Hp), i + m = ds.length → m < N → h[ou]? = some ⟨0, 1, [.rv P, .rv Q]⟩ →
    NumPost (w12_Weight_l116 k N M x1 (.ptr ou 0 0) n i h) := by
  have hs := hp.short
  have out : ∀ N n h x9, NumPost (w12_Weight_p465 k N M x1 (.ptr ou 0 0) n x9 false h) := by
    intro N n h x9
    rw [w12_Weight_p465_eq, bsp_not rfl, w12_Weight_p15_eq]
    exact ⟨_, _, rfl⟩
  intro m
  induction m with
  | zero =>
    intro i N n h hi hN ho
    obtain ⟨N, rfl⟩ : ∃ q, N = q + 1 := ⟨N - 1, by omega⟩
    rw [w12_Weight_l116_eq, pad_ptr, ldv_at ho rfl, hp.len, bsp_not (decide_eq_false (by omega))]
    exact out _ _ _ _
  | succ m ih =>
    intro i N n h hi hN ho
    obtain ⟨N, rfl⟩ : ∃ q, N = q + 1 := ⟨N - 1, by omega⟩
    have hlt : i < ds.length := by omega
    obtain ⟨p, r, v, b, rest, k1, k2, k3, k4, hx⟩ := cd_at (R := ARes × Hp) hp hlt
    rw [w12_Weight_l116_eq, pad_ptr, ldv_at ho rfl, hp.len, bsp_of (decide_eq_true (by omega))]
    by_cases hn : n ≤ x1
    · rw [w12_Weight_p465_eq, bsp_of (decide_eq_true hn), pad_ptr, ldv_at ho rfl, hx, ldg4, var_agg (n := 4) (by rfl) (by rfl) (by simp [k1.one, k2.one, k3.one, k4.one])]
      have hc := get_new (h := h) ⟨0, 1, [.rv p, .rv r, .rv v, .rv b]⟩
      rw [pad_ptr, ldv_at hc rfl, k1.len, pad_ptr, ldv_at hc rfl, k2.len]
      have hs3 := k3.short
      exact Weight_values k3 k4 k N M _ hk x1 i (by omega) (fun n h hu => ih (i + 1) N n h (by omega) (by omega) hu) ds[i].values.length 0 k _ _ (by omega) (by omega) (get_old ho _) hc
    · rw [decide_eq_false hn]
      exact out _ _ _ _
theorem Weight_spec {cs : List RV} {u : Ut} (hu : IsUt cs u) (m : Int) : ∃ n, F_w12_Weight [.agg cs, I m] = some (.ret (I n)) := by
  obtain ⟨P, Q, rfl, hp, hq⟩ := hu
  have hs := hp.short
  have ho : ([⟨0, 1, [.rv P, .rv Q]⟩] : Hp)[0]? = some ⟨0, 1, [.rv P, .rv Q]⟩ := rfl
  unfold F_w12_Weight
  rw [List.map_cons, List.map_cons, List.map_nil, w12_Weight_eq, box_agg, List.nil_append, List.length_nil, show List.map AV.rv [P, Q] = [.rv P, .rv Q] from rfl, pad_ptr, ldv_at ho rfl, hp.len, pad_ptr, ldv_at ho rfl, IsUt.bytes_len hq, show ((0 : Int)) = ((0 : Nat) : Int) from rfl]
  obtain ⟨n, h', e⟩ := Weight_outer hp big ([⟨0, 1, [.rv P, .rv Q]⟩] : Hp).length (by rw [big_val]; omega) m u.codes.length 0 big (wri .i64 (u.codes.length + wri .i64 (Int.tdiv u.bytes 64))) _ (by omega) (by rw [big_val]; omega) ho
  rw [e]
  exact ⟨n, by simp [pureR, toRV, depthA]⟩
end Go.Proofs.Ytknphnmhjmejaaa
