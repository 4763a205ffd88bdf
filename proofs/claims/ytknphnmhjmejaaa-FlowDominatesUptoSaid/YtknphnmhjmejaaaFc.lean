/-  What the flow's copies tell. No conditions. -/
import Derived.Test.YtknphnmhjmejaaaFa
namespace Go.Proofs.Ytknphnmhjmejaaa
set_option linter.unusedVariables false
theorem CopyValue_spec {cs : List RV} {v : Vl} (hv : IsVl cs v) : ∃ cs', F_r0_CopyValue [.agg cs] = some (.ret (.agg cs')) ∧ IsVl cs' v := by
  obtain ⟨a, rfl, ha⟩ := hv
  obtain ⟨r, e, hr⟩ := CopyNumbers_spec ha
  refine ⟨[I v.op, I v.kind, r, I v.n, I v.m], ?_, r, rfl, hr⟩
  unfold F_r0_CopyValue
  rw [List.map_cons, List.map_nil, r0_CopyValue_eq, box_agg, nwc_some, ldg_at (by rfl) (by rfl), var_agg (n := 5) (by rfl) (by rfl) (by simp [ha.one, oneI]), pad_ptr, ldv_at (by rfl) (by rfl),
    callP_ret (by simp [toRV, depthA]) e (.inl rfl), pad_ptr, stv_at (by rfl) (by simp) hr.one hr.cells, ldg_at (by rfl) (by rfl), stv_whole (by rfl) (by rfl) (by rfl) (by simp [hr.one, oneI]), fin_agg (by rfl) (by rfl)]
  rfl
theorem CopyBlock_spec {cs : List RV} {b : Blk} (hb : IsBlk cs b) : ∃ cs', F_r0_CopyBlock [.agg cs] = some (.ret (.agg cs')) ∧ IsBlk cs' b := by
  obtain ⟨a, p, s, t, rfl, ha, hp, hs, ht⟩ := hb
  obtain ⟨a', e1, ha'⟩ := CopyNumbers_spec ha
  obtain ⟨p', e2, hp'⟩ := CopyNumbers_spec hp
  obtain ⟨s', e3, hs'⟩ := CopyNumbers_spec hs
  obtain ⟨t', e4, ht'⟩ := CopyNumbers_spec ht
  refine ⟨[I b.kind, I b.n, a', p', s', t'], ?_, a', p', s', t', rfl, ha', hp', hs', ht'⟩
  unfold F_r0_CopyBlock
  rw [List.map_cons, List.map_nil, r0_CopyBlock_eq, box_agg, nwc_some, ldg_at (by rfl) (by rfl), var_agg (n := 6) (by rfl) (by rfl) (by simp [ha.one, hp.one, hs.one, ht.one, oneI]), pad_ptr, ldv_at (by rfl) (by rfl),
    callP_ret (by simp [toRV, depthA]) e1 (.inl rfl), pad_ptr, stv_at (by rfl) (by simp) ha'.one ha'.cells, pad_ptr, ldv_at (by rfl) (by rfl),
    callP_ret (by simp [toRV, depthA]) e2 (.inl rfl), pad_ptr, stv_at (by rfl) (by simp) hp'.one hp'.cells, pad_ptr, ldv_at (by rfl) (by rfl),
    callP_ret (by simp [toRV, depthA]) e3 (.inl rfl), pad_ptr, stv_at (by rfl) (by simp) hs'.one hs'.cells, pad_ptr, ldv_at (by rfl) (by rfl),
    callP_ret (by simp [toRV, depthA]) e4 (.inl rfl), pad_ptr, stv_at (by rfl) (by simp) ht'.one ht'.cells,
    ldg_at (by rfl) (by rfl), stv_whole (by rfl) (by rfl) (by rfl) (by simp [ha'.one, hp'.one, hs'.one, ht'.one, oneI]), fin_agg (by rfl) (by rfl)]
  rfl
theorem IsVl.len {c : List RV} {v : Vl} (k : IsVl c v) : c.length = 5 ∧ (c.map AV.rv).all oneA = true := by
  obtain ⟨a, rfl, ha⟩ := k
  exact ⟨rfl, by simp [ha.one, oneI]⟩
theorem IsBlk.len {c : List RV} {b : Blk} (k : IsBlk c b) : c.length = 6 ∧ (c.map AV.rv).all oneA = true := by
  obtain ⟨a, p, s, t, rfl, ha, hp, hs, ht⟩ := k
  exact ⟨rfl, by simp [ha.one, hp.one, hs.one, ht.one, oneI]⟩
theorem CopyValues_loop {x : RV} {vs : List Vl} (hx : IsRows 5 IsVl x vs) (k M : Nat) : ∀ (m i N : Nat) (h : Hp) (y : AV), i + m = vs.length → m < N → RowsAt 5 IsVl h y (vs.take i) →
    ∃ w h', r0_CopyValues_l116 k N M (.rv x) y i h = some (.ret w, h') ∧ RowsAt 5 IsVl h' w vs := by
  have hs := hx.short
  intro m
  induction m with
  | zero =>
    intro i N h y hi hN hy
    obtain ⟨N, rfl⟩ : ∃ N', N = N' + 1 := ⟨N - 1, by omega⟩
    rw [r0_CopyValues_l116_eq, hx.len, bsp_not (decide_eq_false (by omega)), r0_CopyValues_p15_eq]
    rw [List.take_of_length_le (by omega)] at hy
    exact ⟨_, _, rfl, hy⟩
  | succ m ih =>
    intro i N h y hi hN hy
    obtain ⟨N, rfl⟩ : ∃ N', N = N' + 1 := ⟨N - 1, by omega⟩
    have hlt : i < vs.length := by omega
    obtain ⟨a, rest, ha, hix⟩ := vl_at (R := ARes × Hp) hx hlt
    obtain ⟨cs', e, hc'⟩ := CopyValue_spec (cs := [I vs[i].op, I vs[i].kind, a, I vs[i].n, I vs[i].m]) (v := vs[i]) ⟨a, rfl, ha⟩
    obtain ⟨w, h3, hK, hw⟩ := hy.push (R := ARes × Hp) (b := 56) (z := [.rv (I 0), .rv (I 0), .rv .nils, .rv (I 0), .rv (I 0)]) (by simp; omega) (by omega) (by omega) rfl hc'.len.1 hc' hc'.len.2
    rw [r0_CopyValues_l116_eq, hx.len, bsp_of (decide_eq_true (by omega)), hix, ldg5, callP_ret (by simp [toRV, depthA]) e (.inl rfl), hK, wri_succ (by omega)]
    refine ih (i + 1) N h3 w (by omega) (by omega) ?_
    rw [List.take_add_one, List.getElem?_eq_getElem hlt]
    exact hw
theorem CopyValues_spec {x : RV} {vs : List Vl} (hx : IsRows 5 IsVl x vs) : ∃ y, F_r0_CopyValues [x] = some (.ret y) ∧ IsRows 5 IsVl y vs := by
  have hs := hx.short
  obtain ⟨w, h', e, hw⟩ := CopyValues_loop hx big ([] : Hp).length vs.length 0 big [] (.rv .nils) (by omega) (by rw [big_val]; omega) .nil
  obtain ⟨y, hy, hr⟩ := hw.done hs
  refine ⟨y, ?_, hr⟩
  unfold F_r0_CopyValues
  rw [List.map_cons, List.map_nil, r0_CopyValues_eq, show ((0 : Int)) = ((0 : Nat) : Int) from rfl, e]
  simp [pureR, hy]
theorem CopyBlocks_loop {x : RV} {vs : List Blk} (hx : IsRows 6 IsBlk x vs) (k M : Nat) : ∀ (m i N : Nat) (h : Hp) (y : AV), i + m = vs.length → m < N → RowsAt 6 IsBlk h y (vs.take i) →
    ∃ w h', r0_CopyBlocks_l116 k N M (.rv x) y i h = some (.ret w, h') ∧ RowsAt 6 IsBlk h' w vs := by
  have hs := hx.short
  intro m
  induction m with
  | zero =>
    intro i N h y hi hN hy
    obtain ⟨N, rfl⟩ : ∃ N', N = N' + 1 := ⟨N - 1, by omega⟩
    rw [r0_CopyBlocks_l116_eq, hx.len, bsp_not (decide_eq_false (by omega)), r0_CopyBlocks_p15_eq]
    rw [List.take_of_length_le (by omega)] at hy
    exact ⟨_, _, rfl, hy⟩
  | succ m ih =>
    intro i N h y hi hN hy
    obtain ⟨N, rfl⟩ : ∃ N', N = N' + 1 := ⟨N - 1, by omega⟩
    have hlt : i < vs.length := by omega
    obtain ⟨a, p, s, t, rest, h1, h2, h3, h4, hix⟩ := blk_at (R := ARes × Hp) hx hlt
    obtain ⟨cs', e, hc'⟩ := CopyBlock_spec (cs := [I vs[i].kind, I vs[i].n, a, p, s, t]) (b := vs[i]) ⟨a, p, s, t, rfl, h1, h2, h3, h4⟩
    obtain ⟨w, h3, hK, hw⟩ := hy.push (R := ARes × Hp) (b := 112) (z := [.rv (I 0), .rv (I 0), .rv .nils, .rv .nils, .rv .nils, .rv .nils]) (by simp; omega) (by omega) (by omega) rfl hc'.len.1 hc' hc'.len.2
    rw [r0_CopyBlocks_l116_eq, hx.len, bsp_of (decide_eq_true (by omega)), hix, ldg6, callP_ret (by simp [toRV, depthA]) e (.inl rfl), hK, wri_succ (by omega)]
    refine ih (i + 1) N h3 w (by omega) (by omega) ?_
    rw [List.take_add_one, List.getElem?_eq_getElem hlt]
    exact hw
theorem CopyBlocks_spec {x : RV} {vs : List Blk} (hx : IsRows 6 IsBlk x vs) : ∃ y, F_r0_CopyBlocks [x] = some (.ret y) ∧ IsRows 6 IsBlk y vs := by
  have hs := hx.short
  obtain ⟨w, h', e, hw⟩ := CopyBlocks_loop hx big ([] : Hp).length vs.length 0 big [] (.rv .nils) (by omega) (by rw [big_val]; omega) .nil
  obtain ⟨y, hy, hr⟩ := hw.done hs
  refine ⟨y, ?_, hr⟩
  unfold F_r0_CopyBlocks
  rw [List.map_cons, List.map_nil, r0_CopyBlocks_eq, show ((0 : Int)) = ((0 : Nat) : Int) from rfl, e]
  simp [pureR, hy]
theorem CopyCode_spec {cs : List RV} {d : Cd} (hd : IsCd cs d) : ∃ cs', F_r0_CopyCode [.agg cs] = some (.ret (.agg cs')) ∧ IsCd cs' d := by
  obtain ⟨p, r, v, b, rfl, hp, hr, hv, hb⟩ := hd
  obtain ⟨p', e1, hp'⟩ := CopyNumbers_spec hp
  obtain ⟨r', e2, hr'⟩ := CopyNumbers_spec hr
  obtain ⟨v', e3, hv'⟩ := CopyValues_spec hv
  obtain ⟨b', e4, hb'⟩ := CopyBlocks_spec hb
  refine ⟨[p', r', v', b'], ?_, p', r', v', b', rfl, hp', hr', hv', hb'⟩
  unfold F_r0_CopyCode
  rw [List.map_cons, List.map_nil, r0_CopyCode_eq, box_agg, nwc_some, ldg_at (by rfl) (by rfl), var_agg (n := 4) (by rfl) (by rfl) (by simp [hp.one, hr.one, hv.one, hb.one]), pad_ptr, ldv_at (by rfl) (by rfl),
    callP_ret (by simp [toRV, depthA]) e1 (.inl rfl), pad_ptr, stv_at (by rfl) (by simp) hp'.one hp'.cells, pad_ptr, ldv_at (by rfl) (by rfl),
    callP_ret (by simp [toRV, depthA]) e2 (.inl rfl), pad_ptr, stv_at (by rfl) (by simp) hr'.one hr'.cells, pad_ptr, ldv_at (by rfl) (by rfl),
    callP_ret (by simp [toRV, depthA]) e3 (.inl rfl), pad_ptr, stv_at (by rfl) (by simp) hv'.one hv'.cells, pad_ptr, ldv_at (by rfl) (by rfl),
    callP_ret (by simp [toRV, depthA]) e4 (.inl rfl), pad_ptr, stv_at (by rfl) (by simp) hb'.one hb'.cells,
    ldg_at (by rfl) (by rfl), stv_whole (by rfl) (by rfl) (by rfl) (by simp [hp'.one, hr'.one, hv'.one, hb'.one]), fin_agg (by rfl) (by rfl)]
  rfl
end Go.Proofs.Ytknphnmhjmejaaa
