/- Joined texts: Ka, AmO, Fo, F1, Kb, Kc, Kd, En, Ke. No conditions but those of each. -/
import Derived.Test.YtknphnmhjmejaaaJ16
import Derived.Test.YtknphnmhjmejaaaJ17
import Derived.Test.YtknphnmhjmejaaaJ6
/-  What is compared is the same. No conditions. -/
namespace Go.Proofs.Ytknphnmhjmejaaa
set_option linter.unusedVariables false
theorem EqNum_true {a b : RV} {xs : List Int} (ha : IsInts a xs) (hb : IsInts b xs) : F_r0_EqNumbers [a, b] = some (.ret (.bool true)) := by
  rw [EqNumbers_spec ha hb]
  simp
theorem EqValue_true {c c' : List RV} {v : Vl} (h : IsVl c v) (k : IsVl c' v) : F_r0_EqValue [.agg c, .agg c'] = some (.ret (.bool true)) := by
  obtain ⟨a, rfl, ha⟩ := h
  obtain ⟨a', rfl, ha'⟩ := k
  unfold F_r0_EqValue
  rw [List.map_cons, List.map_cons, List.map_nil, r0_EqValue_eq]
  have e : ∀ o : Option (ARes × Hp), o = some (.ret (ab true), [⟨0, 1, [ai v.op, ai v.kind, .rv a, ai v.n, ai v.m]⟩, ⟨0, 1, [ai v.op, ai v.kind, .rv a', ai v.n, ai v.m]⟩]) → pureR o = some (.ret (.bool true)) := by
    rintro _ rfl
    simp [pureR, toRV, depthA]
  refine e _ ?_
  rw [box_agg, box_agg]
  obtain ⟨h2, eh2⟩ : ∃ h2 : Hp, h2 = [⟨0, 1, [ai v.op, ai v.kind, .rv a, ai v.n, ai v.m]⟩, ⟨0, 1, [ai v.op, ai v.kind, .rv a', ai v.n, ai v.m]⟩] := ⟨_, rfl⟩
  have g0 : h2[0]? = some ⟨0, 1, [ai v.op, ai v.kind, .rv a, ai v.n, ai v.m]⟩ := by rw [eh2]; rfl
  have g1 : h2[1]? = some ⟨0, 1, [ai v.op, ai v.kind, .rv a', ai v.n, ai v.m]⟩ := by rw [eh2]; rfl
  have e1 : ([] ++ [(⟨0, 1, [I v.op, I v.kind, a, I v.n, I v.m].map .rv⟩ : Ob)] ++ [⟨0, 1, [I v.op, I v.kind, a', I v.n, I v.m].map .rv⟩] : Hp) = h2 := by rw [eh2]; rfl
  have l0 : ([] : Hp).length = 0 := rfl
  have l1 : ([] ++ [(⟨0, 1, [I v.op, I v.kind, a, I v.n, I v.m].map .rv⟩ : Ob)] : Hp).length = 1 := rfl
  rw [e1, l0, l1, ← eh2]
  simp only [pad_ptr]
  rw [ldi_at g0 (n := v.op) rfl, ldi_at g1 (n := v.op) rfl, bsp_of (by simp), ldi_at g0 (n := v.kind) rfl, ldi_at g1 (n := v.kind) rfl, bsp_of (by simp), ldv_at g0 (x := .rv a) rfl, ldv_at g1 (x := .rv a') rfl, callP_ret (by simp [toRV, depthA]) (EqNum_true ha ha') (.inr rfl), asBool_b, bsp_of rfl,
    ldi_at g0 (n := v.n) rfl, ldi_at g1 (n := v.n) rfl, bsp_of (by simp), ldi_at g0 (n := v.m) rfl, ldi_at g1 (n := v.m) rfl, r0_EqValue_p7_eq]
  simp
theorem EqBlock_true {c c' : List RV} {v : Blk} (h : IsBlk c v) (k : IsBlk c' v) : F_r0_EqBlock [.agg c, .agg c'] = some (.ret (.bool true)) := by
  obtain ⟨a, p, s, t, rfl, ha, hp, hs, ht⟩ := h
  obtain ⟨a', p', s', t', rfl, ha', hp', hs', ht'⟩ := k
  unfold F_r0_EqBlock
  rw [List.map_cons, List.map_cons, List.map_nil, r0_EqBlock_eq]
  have e : ∀ o : Option (ARes × Hp), o = some (.ret (ab true), [⟨0, 1, [ai v.kind, ai v.n, .rv a, .rv p, .rv s, .rv t]⟩, ⟨0, 1, [ai v.kind, ai v.n, .rv a', .rv p', .rv s', .rv t']⟩]) → pureR o = some (.ret (.bool true)) := by
    rintro _ rfl
    simp [pureR, toRV, depthA]
  refine e _ ?_
  rw [box_agg, box_agg]
  obtain ⟨h2, eh2⟩ : ∃ h2 : Hp, h2 = [⟨0, 1, [ai v.kind, ai v.n, .rv a, .rv p, .rv s, .rv t]⟩, ⟨0, 1, [ai v.kind, ai v.n, .rv a', .rv p', .rv s', .rv t']⟩] := ⟨_, rfl⟩
  have g0 : h2[0]? = some ⟨0, 1, [ai v.kind, ai v.n, .rv a, .rv p, .rv s, .rv t]⟩ := by rw [eh2]; rfl
  have g1 : h2[1]? = some ⟨0, 1, [ai v.kind, ai v.n, .rv a', .rv p', .rv s', .rv t']⟩ := by rw [eh2]; rfl
  have e1 : ([] ++ [(⟨0, 1, [I v.kind, I v.n, a, p, s, t].map .rv⟩ : Ob)] ++ [⟨0, 1, [I v.kind, I v.n, a', p', s', t'].map .rv⟩] : Hp) = h2 := by rw [eh2]; rfl
  have l0 : ([] : Hp).length = 0 := rfl
  have l1 : ([] ++ [(⟨0, 1, [I v.kind, I v.n, a, p, s, t].map .rv⟩ : Ob)] : Hp).length = 1 := rfl
  rw [e1, l0, l1, ← eh2]
  simp only [pad_ptr]
  rw [ldi_at g0 (n := v.kind) rfl, ldi_at g1 (n := v.kind) rfl, bsp_of (by simp), ldi_at g0 (n := v.n) rfl, ldi_at g1 (n := v.n) rfl, bsp_of (by simp), ldv_at g0 (x := .rv a) rfl, ldv_at g1 (x := .rv a') rfl, callP_ret (by simp [toRV, depthA]) (EqNum_true ha ha') (.inr rfl), asBool_b, bsp_of rfl,
    ldv_at g0 (x := .rv p) rfl, ldv_at g1 (x := .rv p') rfl, callP_ret (by simp [toRV, depthA]) (EqNum_true hp hp') (.inr rfl), asBool_b, bsp_of rfl, ldv_at g0 (x := .rv s) rfl, ldv_at g1 (x := .rv s') rfl, callP_ret (by simp [toRV, depthA]) (EqNum_true hs hs') (.inr rfl), asBool_b, bsp_of rfl,
    ldv_at g0 (x := .rv t) rfl, ldv_at g1 (x := .rv t') rfl, callP_ret (by simp [toRV, depthA]) (EqNum_true ht ht') (.inr rfl), asBool_b, r0_EqBlock_p7_eq]
theorem EqLoop_true {c c' : List RV} {v : Lp} (h : IsLp c v) (k : IsLp c' v) : F_r0_EqLoop [.agg c, .agg c'] = some (.ret (.bool true)) := by
  obtain ⟨a, rfl, ha⟩ := h
  obtain ⟨a', rfl, ha'⟩ := k
  unfold F_r0_EqLoop
  rw [List.map_cons, List.map_cons, List.map_nil, r0_EqLoop_eq]
  have e : ∀ o : Option (ARes × Hp), o = some (.ret (ab true), [⟨0, 1, [ai v.head, ai v.outer, ai v.depth, .rv a]⟩, ⟨0, 1, [ai v.head, ai v.outer, ai v.depth, .rv a']⟩]) → pureR o = some (.ret (.bool true)) := by
    rintro _ rfl
    simp [pureR, toRV, depthA]
  refine e _ ?_
  rw [box_agg, box_agg]
  obtain ⟨h2, eh2⟩ : ∃ h2 : Hp, h2 = [⟨0, 1, [ai v.head, ai v.outer, ai v.depth, .rv a]⟩, ⟨0, 1, [ai v.head, ai v.outer, ai v.depth, .rv a']⟩] := ⟨_, rfl⟩
  have g0 : h2[0]? = some ⟨0, 1, [ai v.head, ai v.outer, ai v.depth, .rv a]⟩ := by rw [eh2]; rfl
  have g1 : h2[1]? = some ⟨0, 1, [ai v.head, ai v.outer, ai v.depth, .rv a']⟩ := by rw [eh2]; rfl
  have e1 : ([] ++ [(⟨0, 1, [I v.head, I v.outer, I v.depth, a].map .rv⟩ : Ob)] ++ [⟨0, 1, [I v.head, I v.outer, I v.depth, a'].map .rv⟩] : Hp) = h2 := by rw [eh2]; rfl
  have l0 : ([] : Hp).length = 0 := rfl
  have l1 : ([] ++ [(⟨0, 1, [I v.head, I v.outer, I v.depth, a].map .rv⟩ : Ob)] : Hp).length = 1 := rfl
  rw [e1, l0, l1, ← eh2]
  simp only [pad_ptr]
  rw [ldi_at g0 (n := v.head) rfl, ldi_at g1 (n := v.head) rfl, bsp_of (by simp), ldi_at g0 (n := v.outer) rfl, ldi_at g1 (n := v.outer) rfl, bsp_of (by simp), ldi_at g0 (n := v.depth) rfl, ldi_at g1 (n := v.depth) rfl, bsp_of (by simp), ldv_at g0 (x := .rv a) rfl, ldv_at g1 (x := .rv a') rfl, callP_ret (by simp [toRV, depthA]) (EqNum_true ha ha') (.inr rfl), asBool_b, r0_EqLoop_p7_eq]
theorem EqValues_loop {x y : RV} {vs : List Vl} (hx : IsRows 5 IsVl x vs) (hy : IsRows 5 IsVl y vs) (k M : Nat) (h : Hp) : ∀ (m i N : Nat), i + m = vs.length → m < N → r0_EqValues_l116 k N M (.rv x) (.rv y) i h = some (.ret (ab true), h) := by
  have hs := hx.short
  intro m
  induction m with
  | zero =>
    intro i N hi hN
    obtain ⟨N, rfl⟩ : ∃ q, N = q + 1 := ⟨N - 1, by omega⟩
    rw [r0_EqValues_l116_eq, hx.len, bsp_not (decide_eq_false (by omega)), r0_EqValues_p15_eq]
  | succ m ih =>
    intro i N hi hN
    obtain ⟨N, rfl⟩ : ∃ q, N = q + 1 := ⟨N - 1, by omega⟩
    have hil : i < vs.length := by omega
    obtain ⟨c, rest, _, q1, hx1⟩ := hx.at (R := ARes × Hp) hil
    obtain ⟨c', rest', _, q2, hx2⟩ := hy.at (R := ARes × Hp) hil
    have ev := EqValue_true q1 q2
    obtain ⟨a, rfl, _⟩ := q1
    obtain ⟨a', rfl, _⟩ := q2
    rw [r0_EqValues_l116_eq, hx.len, bsp_of (decide_eq_true (by omega)), hx1]
    simp only [List.cons_append, List.nil_append]
    rw [ldg5, hx2]
    simp only [List.cons_append, List.nil_append]
    rw [ldg5, callP_ret (by simp [toRV, depthA]) ev (.inr rfl), asBool_b, bsp_not (by rfl), wri_succ (by omega)]
    exact ih (i + 1) N (by omega) (by omega)
theorem EqValues_true {x y : RV} {vs : List Vl} (hx : IsRows 5 IsVl x vs) (hy : IsRows 5 IsVl y vs) : F_r0_EqValues [x, y] = some (.ret (.bool true)) := by
  have hs := hx.short
  unfold F_r0_EqValues
  rw [List.map_cons, List.map_cons, List.map_nil, r0_EqValues_eq, hx.len, hy.len, bsp_not (by simp), show ((0 : Int)) = ((0 : Nat) : Int) from rfl, EqValues_loop hx hy big _ _ vs.length 0 big (by omega) (by rw [big_val]; omega)]
  simp [pureR, toRV, depthA]
theorem EqBlocks_loop {x y : RV} {vs : List Blk} (hx : IsRows 6 IsBlk x vs) (hy : IsRows 6 IsBlk y vs) (k M : Nat) (h : Hp) : ∀ (m i N : Nat), i + m = vs.length → m < N → r0_EqBlocks_l116 k N M (.rv x) (.rv y) i h = some (.ret (ab true), h) := by
  have hs := hx.short
  intro m
  induction m with
  | zero =>
    intro i N hi hN
    obtain ⟨N, rfl⟩ : ∃ q, N = q + 1 := ⟨N - 1, by omega⟩
    rw [r0_EqBlocks_l116_eq, hx.len, bsp_not (decide_eq_false (by omega)), r0_EqBlocks_p15_eq]
  | succ m ih =>
    intro i N hi hN
    obtain ⟨N, rfl⟩ : ∃ q, N = q + 1 := ⟨N - 1, by omega⟩
    have hil : i < vs.length := by omega
    obtain ⟨a, p, s, t, rest, k1, k2, k3, k4, hx1⟩ := blk_at (R := ARes × Hp) hx hil
    obtain ⟨a', p', s', t', rest', j1, j2, j3, j4, hx2⟩ := blk_at (R := ARes × Hp) hy hil
    have ev := EqBlock_true (v := vs[i]) ⟨a, p, s, t, rfl, k1, k2, k3, k4⟩ ⟨a', p', s', t', rfl, j1, j2, j3, j4⟩
    rw [r0_EqBlocks_l116_eq, hx.len, bsp_of (decide_eq_true (by omega)), hx1, ldg6, hx2, ldg6, callP_ret (by simp [toRV, depthA]) ev (.inr rfl), asBool_b, bsp_not (by rfl), wri_succ (by omega)]
    exact ih (i + 1) N (by omega) (by omega)
theorem EqBlocks_true {x y : RV} {vs : List Blk} (hx : IsRows 6 IsBlk x vs) (hy : IsRows 6 IsBlk y vs) : F_r0_EqBlocks [x, y] = some (.ret (.bool true)) := by
  have hs := hx.short
  unfold F_r0_EqBlocks
  rw [List.map_cons, List.map_cons, List.map_nil, r0_EqBlocks_eq, hx.len, hy.len, bsp_not (by simp), show ((0 : Int)) = ((0 : Nat) : Int) from rfl, EqBlocks_loop hx hy big _ _ vs.length 0 big (by omega) (by rw [big_val]; omega)]
  simp [pureR, toRV, depthA]
theorem EqLoops_loop {x y : RV} {vs : List Lp} (hx : IsRows 4 IsLp x vs) (hy : IsRows 4 IsLp y vs) (k M : Nat) (h : Hp) : ∀ (m i N : Nat), i + m = vs.length → m < N → r0_EqLoops_l116 k N M (.rv x) (.rv y) i h = some (.ret (ab true), h) := by
  have hs := hx.short
  intro m
  induction m with
  | zero =>
    intro i N hi hN
    obtain ⟨N, rfl⟩ : ∃ q, N = q + 1 := ⟨N - 1, by omega⟩
    rw [r0_EqLoops_l116_eq, hx.len, bsp_not (decide_eq_false (by omega)), r0_EqLoops_p15_eq]
  | succ m ih =>
    intro i N hi hN
    obtain ⟨N, rfl⟩ : ∃ q, N = q + 1 := ⟨N - 1, by omega⟩
    have hil : i < vs.length := by omega
    obtain ⟨c, rest, _, q1, hx1⟩ := hx.at (R := ARes × Hp) hil
    obtain ⟨c', rest', _, q2, hx2⟩ := hy.at (R := ARes × Hp) hil
    have ev := EqLoop_true q1 q2
    obtain ⟨a, rfl, _⟩ := q1
    obtain ⟨a', rfl, _⟩ := q2
    rw [r0_EqLoops_l116_eq, hx.len, bsp_of (decide_eq_true (by omega)), hx1]
    simp only [List.cons_append, List.nil_append]
    rw [ldg4, hx2]
    simp only [List.cons_append, List.nil_append]
    rw [ldg4, callP_ret (by simp [toRV, depthA]) ev (.inr rfl), asBool_b, bsp_not (by rfl), wri_succ (by omega)]
    exact ih (i + 1) N (by omega) (by omega)
theorem EqLoops_true {x y : RV} {vs : List Lp} (hx : IsRows 4 IsLp x vs) (hy : IsRows 4 IsLp y vs) : F_r0_EqLoops [x, y] = some (.ret (.bool true)) := by
  have hs := hx.short
  unfold F_r0_EqLoops
  rw [List.map_cons, List.map_cons, List.map_nil, r0_EqLoops_eq, hx.len, hy.len, bsp_not (by simp), show ((0 : Int)) = ((0 : Nat) : Int) from rfl, EqLoops_loop hx hy big _ _ vs.length 0 big (by omega) (by rw [big_val]; omega)]
  simp [pureR, toRV, depthA]
theorem EqCode_true {c c' : List RV} {d : Cd} (h : IsCd c d) (k : IsCd c' d) : F_r0_EqCode [.agg c, .agg c'] = some (.ret (.bool true)) := by
  obtain ⟨p, r, v, b, rfl, hp, hr, hv, hb⟩ := h
  obtain ⟨p', r', v', b', rfl, hp', hr', hv', hb'⟩ := k
  unfold F_r0_EqCode
  rw [List.map_cons, List.map_cons, List.map_nil, r0_EqCode_eq]
  have e : ∀ o : Option (ARes × Hp), o = some (.ret (ab true), [⟨0, 1, [.rv p, .rv r, .rv v, .rv b]⟩, ⟨0, 1, [.rv p', .rv r', .rv v', .rv b']⟩]) → pureR o = some (.ret (.bool true)) := by
    rintro _ rfl
    simp [pureR, toRV, depthA]
  refine e _ ?_
  rw [box_agg, box_agg]
  obtain ⟨h2, eh2⟩ : ∃ h2 : Hp, h2 = [⟨0, 1, [.rv p, .rv r, .rv v, .rv b]⟩, ⟨0, 1, [.rv p', .rv r', .rv v', .rv b']⟩] := ⟨_, rfl⟩
  have g0 : h2[0]? = some ⟨0, 1, [.rv p, .rv r, .rv v, .rv b]⟩ := by rw [eh2]; rfl
  have g1 : h2[1]? = some ⟨0, 1, [.rv p', .rv r', .rv v', .rv b']⟩ := by rw [eh2]; rfl
  have e1 : ([] ++ [(⟨0, 1, [p, r, v, b].map .rv⟩ : Ob)] ++ [⟨0, 1, [p', r', v', b'].map .rv⟩] : Hp) = h2 := by rw [eh2]; rfl
  have l0 : ([] : Hp).length = 0 := rfl
  have l1 : ([] ++ [(⟨0, 1, [p, r, v, b].map .rv⟩ : Ob)] : Hp).length = 1 := rfl
  rw [e1, l0, l1, ← eh2]
  simp only [pad_ptr]
  rw [ldv_at g0 (x := .rv p) rfl, ldv_at g1 (x := .rv p') rfl, callP_ret (by simp [toRV, depthA]) (EqNum_true hp hp') (.inr rfl), asBool_b, bsp_of rfl, ldv_at g0 (x := .rv r) rfl, ldv_at g1 (x := .rv r') rfl, callP_ret (by simp [toRV, depthA]) (EqNum_true hr hr') (.inr rfl), asBool_b, bsp_of rfl,
    ldv_at g0 (x := .rv v) rfl, ldv_at g1 (x := .rv v') rfl, callP_ret (by simp [toRV, depthA]) (EqValues_true hv hv') (.inr rfl), asBool_b, bsp_of rfl, ldv_at g0 (x := .rv b) rfl, ldv_at g1 (x := .rv b') rfl, callP_ret (by simp [toRV, depthA]) (EqBlocks_true hb hb') (.inr rfl), asBool_b, r0_EqCode_p7_eq]
end Go.Proofs.Ytknphnmhjmejaaa
/-  A function whose result is its caller's own: run on an empty heap, the heap it makes is laid behind the caller's. No conditions. -/
namespace Go.Proofs.Ytknphnmhjmejaaa
set_option linter.unusedVariables false
mutual
def shA (n : Nat) : AV → AV
  | .any => .any
  | .rv x => .rv x
  | .ptr o r off => .ptr (o + n) r off
  | .sl o r off len => .sl (o + n) r off len
  | .func f fs cs => .func f (shL n fs) (shL n cs)
  | .iface t x => .iface t (shA n x)
  | .agg cs => .agg (shL n cs)
  | .tuple cs => .tuple (shL n cs)
def shL (n : Nat) : List AV → List AV
  | [] => []
  | x :: l => shA n x :: shL n l
end
def shOb (n : Nat) (ob : Ob) : Ob := ⟨ob.ver, ob.esz, shL n ob.cells⟩
def shH (n : Nat) (h : Hp) : Hp := h.map (shOb n)
theorem shL_len (n : Nat) : ∀ l : List AV, (shL n l).length = l.length
  | [] => rfl
  | x :: l => by simp [shL, shL_len n l]
theorem shL_get (n : Nat) : ∀ (l : List AV) (i : Nat), (shL n l)[i]? = (l[i]?).map (shA n)
  | [], i => rfl
  | x :: l, 0 => rfl
  | x :: l, i + 1 => by simp only [shL, List.getElem?_cons_succ]; exact shL_get n l i
def upJ (n : Nat) (J J1 : Jm) : Jm := fun o r => if o < n then J o r else J1 (o - n) r
mutual
theorem V_sh {J J1 : Jm} {M : Mm} (n : Nat) : ∀ (x : AV) (v : Value), V J1 M x v → V (upJ n J J1) M (shA n x) v
  | .any, _, _ => by simp [shA, V]
  | .rv x, v, k => by simpa only [shA, V] using k
  | .ptr o r off, v, k => by
    simp only [shA, V] at k ⊢
    obtain ⟨e, he, hv⟩ := k
    exact ⟨e, by rw [upJ, if_neg (by omega), Nat.add_sub_cancel]; exact he, hv⟩
  | .sl o r off len, v, k => by
    simp only [shA, V] at k ⊢
    obtain ⟨e, he, hv⟩ := k
    exact ⟨e, by rw [upJ, if_neg (by omega), Nat.add_sub_cancel]; exact he, hv⟩
  | .func f fs cs, v, k => by
    simp only [shA, V] at k ⊢
    obtain ⟨us, vs, e, ⟨l1, r1⟩, l, r⟩ := k
    exact ⟨us, vs, e, ⟨by rw [shL_len]; exact l1, Vs_sh n fs _ r1⟩, by rw [shL_len]; exact l, Vs_sh n cs _ r⟩
  | .iface t x, v, k => by
    simp only [shA, V] at k ⊢
    obtain ⟨u, e, r⟩ := k
    exact ⟨u, e, V_sh n x u r⟩
  | .agg cs, v, k => by
    simp only [shA, V] at k ⊢
    obtain ⟨vs, e, l, r⟩ := k
    exact ⟨vs, e, by rw [shL_len]; exact l, Vs_sh n cs _ r⟩
  | .tuple cs, v, k => by
    simp only [shA, V] at k ⊢
    obtain ⟨vs, e, l, r⟩ := k
    exact ⟨vs, e, by rw [shL_len]; exact l, Vs_sh n cs _ r⟩
theorem Vs_sh {J J1 : Jm} {M : Mm} (n : Nat) : ∀ (cs : List AV) (f : Nat → Option Value), Vs J1 M cs f → Vs (upJ n J J1) M (shL n cs) f
  | [], _, _ => by simp [shL, Vs]
  | x :: cs, f, k => by
    simp only [shL, Vs] at k ⊢
    obtain ⟨⟨v, h0, hv⟩, r⟩ := k
    exact ⟨⟨v, h0, V_sh n x v hv⟩, Vs_sh n cs _ r⟩
end
theorem Stp.shift {J M h w J1 M1 h1 w1} (r : HR J M h w) (st : Stp (fun _ _ => none) M [] w J1 M1 h1 w1) : Stp J M h w (upJ h.length J J1) M1 (h ++ shH h.length h1) w1 := by
  have keyJ : ∀ o q e, J o q = some e → o < h.length := fun o q e k => by
    obtain ⟨ob, hob, _⟩ := r.key _ _ _ k
    exact (List.getElem?_eq_some_iff.1 hob).1
  have jle : JLe J (upJ h.length J J1) := fun o q e k => by rw [upJ, if_pos (keyJ o q e k)]; exact k
  have old : ∀ o ob, (h ++ shH h.length h1)[o]? = some ob → (o < h.length ∧ h[o]? = some ob) ∨ ∃ o1 ob1, o = o1 + h.length ∧ h1[o1]? = some ob1 ∧ ob = shOb h.length ob1 := by
    intro o ob ho
    rcases Nat.lt_or_ge o h.length with hlt | hge
    · exact .inl ⟨hlt, by rwa [List.getElem?_append_left hlt] at ho⟩
    · rw [List.getElem?_append_right hge, shH, List.getElem?_map, Option.map_eq_some_iff] at ho
      obtain ⟨ob1, h2, rfl⟩ := ho
      exact .inr ⟨o - h.length, ob1, by omega, h2, rfl⟩
  have jo : ∀ o q, o < h.length → upJ h.length J J1 o q = J o q := fun o q ho => by rw [upJ, if_pos ho]
  have jn : ∀ o q, upJ h.length J J1 (o + h.length) q = J1 o q := fun o q => by rw [upJ, if_neg (by omega), Nat.add_sub_cancel]
  have newb : ∀ o ob e, h1[o]? = some ob → J1 o ob.ver = some e → w.heap.size ≤ e.b := fun o ob e h2 h3 => by
    rcases st.onew e.b ⟨o, ob, e, h2, h3, rfl⟩ with k | k
    · exact absurd k not_owned
    · exact k
  refine ⟨jle, st.mle, ⟨?_, ?_, ?_, st.hr.im, ?_⟩, by simp, ⟨st.fr.os, st.fr.tape, st.fr.output, st.fr.size, fun b hb _ => st.fr.block b hb not_owned⟩, fun a v k => ?_, ?_, fun o q e k => ?_⟩
  · intro o ob ho
    rcases old o ob ho with ⟨hlt, ho⟩ | ⟨o1, ob1, rfl, h2, rfl⟩
    · rcases r.ob0 o ob ho with hd | ⟨e, c, t, he, hs, hb, hn, hv⟩
      · exact .inl fun q => by rw [jo _ _ hlt]; exact hd q
      · exact .inr ⟨e, c, t, by rw [jo _ _ hlt]; exact he, hs, by rw [st.fr.block _ (lt_of_cells hb) not_owned]; exact hb, hn, Vs_mono jle st.mle _ _ _ (fun _ _ k => k) hv⟩
    · rcases st.hr.ob0 o1 ob1 h2 with hd | ⟨e, c, t, he, hs, hb, hn, hv⟩
      · exact .inl fun q => by rw [jn]; exact hd q
      · exact .inr ⟨e, c, t, by rw [jn]; exact he, hs, hb, hn, Vs_sh _ _ _ hv⟩
  · intro o q e k
    unfold upJ at k
    split at k
    · rename_i hlt
      obtain ⟨ob, hob, hle⟩ := r.key _ _ _ k
      exact ⟨ob, by rw [List.getElem?_append_left hlt]; exact hob, hle⟩
    · rename_i hge
      obtain ⟨ob, hob, hle⟩ := st.hr.key _ _ _ k
      exact ⟨shOb h.length ob, by rw [List.getElem?_append_right (by omega), shH, List.getElem?_map, hob]; rfl, hle⟩
  · intro o1 o2 ob1 ob2 e1 e2 h2 h3 k1 k2 hb
    rcases old _ _ h2 with ⟨l1, g2⟩ | ⟨p1, b1, rfl, g2, rfl⟩ <;> rcases old _ _ h3 with ⟨l2, g3⟩ | ⟨p2, b2, rfl, g3, rfl⟩
    · rw [jo _ _ l1] at k1
      rw [jo _ _ l2] at k2
      exact r.inj _ _ _ _ _ _ g2 g3 k1 k2 hb
    · rw [jo _ _ l1] at k1
      rw [jn] at k2
      have := owned_lt r ⟨_, _, _, g2, k1, rfl⟩
      have := newb _ _ _ g3 k2
      omega
    · rw [jn] at k1
      rw [jo _ _ l2] at k2
      have := owned_lt r ⟨_, _, _, g3, k2, rfl⟩
      have := newb _ _ _ g2 k1
      omega
    · rw [jn] at k1 k2
      rw [st.hr.inj _ _ _ _ _ _ g2 g3 k1 k2 hb]
  · intro a v o ob e k ho he
    rcases old _ _ ho with ⟨l1, go⟩ | ⟨p1, b1, rfl, go, rfl⟩
    · rw [jo _ _ l1] at he
      rcases st.mnew a v k with k | k | k
      · exact r.sep _ _ _ _ _ k go he
      · exact absurd k not_owned
      · have := owned_lt r ⟨_, _, _, go, he, rfl⟩
        omega
    · rw [jn] at he
      exact st.hr.sep _ _ _ _ _ k go he
  · rcases st.mnew a v k with k | k | k
    · exact .inl k
    · exact absurd k not_owned
    · exact .inr (.inr k)
  · rintro b ⟨o, ob, e, ho, he, rfl⟩
    rcases old _ _ ho with ⟨l1, go⟩ | ⟨p1, b1, rfl, go, rfl⟩
    · rw [jo _ _ l1] at he
      exact .inl ⟨o, ob, e, go, he, rfl⟩
    · rw [jn] at he
      exact .inr (newb _ _ _ go he)
  · rcases Nat.lt_or_ge o h.length with hlt | hge
    · rw [jo _ _ hlt] at k
      exact .inr ⟨_, _, k⟩
    · exact .inl hge
/-- Its run, as a function that writes. -/
noncomputable def ownG (F : List RV → Option (ARes × Hp)) (args : List AV) (h : Hp) : Option (ARes × Hp) :=
  if args.all isRV = true then
    match args.mapM (toRV h depthA) with
    | some rs => match F rs with
      | some (.ret v, h1) => some (.ret (shA h.length v), h ++ shH h.length h1)
      | _ => none
    | none => none
  else none
theorem own_good {P : Program} {f : FuncId} (he : Ent P f) {F : List RV → Option (ARes × Hp)} (hF : ∀ rs v h1, F rs = some (.ret v, h1) → ACalls P f (rs.map .rv) [] (.ret v) h1) : GoodC P f (.gen (ownG F)) := by
  refine ⟨he, fun args h r h' hr => ?_⟩
  unfold ownG at hr
  split at hr
  case isFalse => cases hr
  rename_i hall
  split at hr
  case h_2 => cases hr
  rename_i rs hrs
  split at hr
  case h_2 => cases hr
  rename_i v h1 hv
  cases hr
  intro J M w cargs hr hs hvs
  obtain ⟨hlen, hget⟩ := mapM_some hrs
  refine (hF rs v h1 hv (fun _ _ => none) M w cargs (noJ hr.im) (by simp [hlen, hs]) (Vs_iff.2 fun i y hy => ?_)).mono fun e w' ⟨J', M', st, hR⟩ => ?_
  · rw [List.getElem?_map] at hy
    simp only [Option.map_eq_some_iff] at hy
    obtain ⟨y', hy', rfl⟩ := hy
    obtain ⟨x, hx, hfx⟩ := hget i y' hy'
    obtain ⟨u, hu, hU⟩ := Vs_iff.1 hvs i x hx
    exact ⟨u, hu, by simpa only [V] using toRV_rv _ x y' u (List.all_eq_true.1 hall x (List.mem_of_getElem? hx)) hfx hU⟩
  · obtain ⟨u, rfl, hV⟩ := hR
    exact ⟨_, M', st.shift hr, u, rfl, V_sh _ _ _ hV⟩
theorem goodO {P : Program} {Γ : FuncId → Option Callee} {ann : Ann} {trims : List Nat} (hm : P.follows .mixedOrders = true) (good : Good P Γ) {f : FuncId} {fn : Func} (hf : P.funcs[f]? = some fn) (hname : (fn.name == "runtime.NumGoroutine") = false) (hb : fn.body.isSome = true) {F : List RV → Option (ARes × Hp)}
    (H : ∀ rs x, F rs = some x → ∃ k, fnA P Γ ann trims k fn (rs.map .rv) [] = some x) : GoodC P f (.gen (ownG F)) := by
  obtain ⟨c, hc⟩ := Option.isSome_iff_exists.1 hb
  refine own_good (Go.Proofs.enters_of hf hname hc) fun rs v h1 hr => ?_
  obtain ⟨k, hk⟩ := H _ _ hr
  exact fnA_sound hm good hf hb hk
end Go.Proofs.Ytknphnmhjmejaaa
/-  Functions whose results are their caller's own. No conditions. -/
namespace Go.Proofs.Ytknphnmhjmejaaa
set_option linter.unusedVariables false
noncomputable def O_ssa_Doms : List RV → Option (ARes × Hp) := fun rs => fnA Try.prog ssa_Doms_G ssa_Doms_A ssa_Doms_R big Try.f42 (rs.map .rv) []
theorem good_O_ssa_Doms : GoodC Try.prog 42 (.gen (ownG O_ssa_Doms)) := goodO mixed ssa_Doms_good (by kernel_rfl : Try.prog.funcs[42]? = some Try.f42) rfl rfl (fun rs x e => ⟨big, e⟩)
noncomputable def O_flow_Post : List RV → Option (ARes × Hp) := fun rs => fnA Try.prog flow_Post_G flow_Post_A flow_Post_R big Try.f8 (rs.map .rv) []
theorem good_O_flow_Post : GoodC Try.prog 8 (.gen (ownG O_flow_Post)) := goodO mixed flow_Post_good (by kernel_rfl : Try.prog.funcs[8]? = some Try.f8) rfl rfl (fun rs x e => ⟨big, e⟩)
noncomputable def O_flow_Loops : List RV → Option (ARes × Hp) := fun rs => fnA Try.prog flow_Loops_G flow_Loops_A flow_Loops_R big Try.f18 (rs.map .rv) []
theorem good_O_flow_Loops : GoodC Try.prog 18 (.gen (ownG O_flow_Loops)) := goodO mixed flow_Loops_good (by kernel_rfl : Try.prog.funcs[18]? = some Try.f18) rfl rfl (fun rs x e => ⟨big, e⟩)
end Go.Proofs.Ytknphnmhjmejaaa
/- The places and the unfolding equations of these functions (printed by gen.py of this repo): no conditions. -/
namespace Go.Proofs.Ytknphnmhjmejaaa
set_option linter.unusedVariables false
set_option maxRecDepth 100000

/-! gantry/flow.Doms -/
abbrev id_flow_Doms_o : FuncId := 15
noncomputable def flow_Doms_o_G : FuncId → Option Callee := fun f => match f with
  | 31 => some (.pure F_ssa_Flow)
  | 42 => some (.gen (ownG O_ssa_Doms))
  | 43 => some (.pure F_ssa_Post)
  | _ => none
def flow_Doms_o_A : Ann := []
def flow_Doms_o_R : List Nat := []
noncomputable def flow_Doms_o_c (k pos : Nat) : St → Cont (ARes × Hp) → Option (ARes × Hp) := acode Try.prog flow_Doms_o_G flow_Doms_o_A flow_Doms_o_R k (cdAt (pathOf pos) (bodyOf Try.f15)) pos
theorem flow_Doms_o_eq (k : Nat) (x0 : AV) (h : Hp) : fnA Try.prog flow_Doms_o_G flow_Doms_o_A flow_Doms_o_R k Try.f15 [x0] h = nwc 1 (vcells x0) h fun p1 h2 => ldg 4 h2 p1 fun v3 => callP F_ssa_Flow h2 [v3] (fun r4 => asInt .i64 r4 fun n6 => bsp ((n6 != 0)) (some (.ret (.tuple [(.rv .nils), (.rv (.int .i64 n6))]), h2)) (ldg 4 h2 p1 fun v7 => ldg 4 h2 p1 fun v8 => callP F_ssa_Post h2 [v8] (fun r9 => callG (ownG O_ssa_Doms) h2 [v7, r9] (fun r11 h13 => some (.ret (.tuple [r11, (.rv (.int .i64 0))]), h13)) (fun q12 h14 => none)) (fun q10 => none))) (fun q5 => some (.pan q5, h2)) := nrfl (by kernel_rfl)
theorem flow_Doms_o_good : Good Try.prog flow_Doms_o_G := by
  intro f c hc
  unfold flow_Doms_o_G at hc
  split at hc
  · cases hc; exact good_ssa_Flow
  · cases hc; exact good_O_ssa_Doms
  · cases hc; exact good_ssa_Post
  · cases hc
noncomputable def O_flow_Doms_o : List RV → Option (ARes × Hp) := fun rs => fnA Try.prog flow_Doms_o_G flow_Doms_o_A flow_Doms_o_R big Try.f15 (rs.map .rv) []
theorem good_O_flow_Doms_o : GoodC Try.prog 15 (.gen (ownG O_flow_Doms_o)) := goodO mixed flow_Doms_o_good (by kernel_rfl : Try.prog.funcs[15]? = some Try.f15) rfl rfl (fun rs x e => ⟨big, e⟩)
end Go.Proofs.Ytknphnmhjmejaaa
/-  Results that are their caller's own; what writes them over. No conditions. -/
namespace Go.Proofs.Ytknphnmhjmejaaa
set_option linter.unusedVariables false
theorem shL_map {n : Nat} {xs : List Int} : shL n (xs.map ai) = xs.map ai := by
  apply List.ext_getElem?
  intro i
  rw [shL_get, List.getElem?_map]
  cases xs[i]? <;> rfl
theorem shL_app (n : Nat) : ∀ a b : List AV, shL n (a ++ b) = shL n a ++ shL n b
  | [], b => rfl
  | x :: a, b => by simp [shL, shL_app n a b]
theorem shH_get {h h1 : Hp} {o : Nat} {v e : Nat} {cs : List AV} (ho : h1[o]? = some ⟨v, e, cs⟩) : (h ++ shH h.length h1)[o + h.length]? = some ⟨v, e, shL h.length cs⟩ := by
  rw [List.getElem?_append_right (by omega), Nat.add_sub_cancel, shH, List.getElem?_map, ho]
  rfl
theorem ownG_ret {F : List RV → Option (ARes × Hp)} {args : List AV} {h h1 : Hp} {rs : List RV} {v : AV} (ha : args.all isRV = true) (hm : args.mapM (toRV h depthA) = some rs) (hF : F rs = some (.ret v, h1)) :
    ownG F args h = some (.ret (shA h.length v), h ++ shH h.length h1) := by
  unfold ownG
  rw [if_pos ha, hm]
  simp only [hF]
theorem IntsJ.shift {h h1 : Hp} {v : AV} {xs : List Int} (k : IntsJ h1 v xs) : IntsJ (h ++ shH h.length h1) (shA h.length v) xs := by
  cases k with
  | nil => exact .nil
  | @mk o ver xs junk ho =>
    have := shH_get (h := h) ho
    rw [shL_app, shL_map] at this
    exact .mk this
theorem own_sh {h h1 : Hp} {v : AV} {xs : List Int} (k : IntsJ h1 v xs) : ∀ q, own (shA h.length v) = some q → h.length ≤ q := by
  intro q hq
  cases k with
  | nil => cases hq
  | mk ho =>
    simp only [shA, own, Option.some.injEq] at hq
    omega
theorem IntsJ.put {h : Hp} {v : AV} {xs : List Int} (k : IntsJ h v xs) {i : Nat} (hi : i < xs.length) (z : Int) : ∃ h', (∀ K : Hp → Option (ARes × Hp), (ixa 1 v i fun p => stv 1 h p (ai z) K) = K h') ∧ IntsJ h' v (xs.set i z) ∧ h'.length = h.length ∧ ∀ q, own v ≠ some q → h'[q]? = h[q]? := by
  cases k with
  | nil => simp at hi
  | @mk o ver xs junk ho =>
    refine ⟨h.set o ⟨ver, 1, (xs.map ai ++ junk).set i (ai z)⟩, fun K => ?_, ?_, by simp, fun q hq => List.getElem?_set_ne fun e => hq (by subst e; rfl)⟩
    · rw [sl_at hi, stv_at ho (by simp; omega) rfl rfl]
    · have := IntsJ.mk (h := h.set o ⟨ver, 1, (xs.map ai ++ junk).set i (ai z)⟩) (o := o) (v := ver) (xs := xs.set i z) (junk := junk) (by
        rw [List.map_set, ← List.set_append_left _ _ (by simpa using hi)]; exact get_set_eq ho)
      rw [List.length_set] at this
      exact this
theorem Numbers_loop {v : AV} (n : Nat) (hn : n < 1000000000) (k M : Nat) : ∀ (m i N : Nat) (h : Hp) (xs : List Int), xs.length = n → i + m = n → m < N → IntsJ h v xs →
    ∃ h', w0_Numbers_l20 k N M v i h = some (.ret undefA, h') ∧ h.length ≤ h'.length ∧ ∀ q, q < h.length → own v ≠ some q → h'[q]? = h[q]? := by
  intro m
  induction m with
  | zero =>
    intro i N h xs hx hi hN kj
    obtain ⟨N, rfl⟩ : ∃ q, N = q + 1 := ⟨N - 1, by omega⟩
    obtain ⟨w, h3, hK, _, hlt, hkeep, _⟩ := kj.push (by omega) 5
    rw [w0_Numbers_l20_eq, kj.lna, hx, bsp_not (decide_eq_false (by omega)), w0_Numbers_p3_eq, hK]
    exact ⟨h3, rfl, by omega, hkeep⟩
  | succ m ih =>
    intro i N h xs hx hi hN kj
    obtain ⟨N, rfl⟩ : ∃ q, N = q + 1 := ⟨N - 1, by omega⟩
    obtain ⟨h1, hK, kj1, hl1, hkeep1⟩ := kj.put (i := i) (by omega) (-99)
    obtain ⟨h', e, hl, hkeep⟩ := ih (i + 1) N h1 _ (by rw [List.length_set]; exact hx) (by omega) (by omega) kj1
    rw [w0_Numbers_l20_eq, kj.lna, hx, bsp_of (decide_eq_true (by omega)), hK, wri_succ (by omega), e]
    exact ⟨h', rfl, by omega, fun q hq hne => by rw [hkeep q (by omega) hne, hkeep1 q hne]⟩
theorem Numbers_spec {h : Hp} {v : AV} {xs : List Int} (k : IntsJ h v xs) (hl : xs.length < 1000000000) : ∃ h', G_w0_Numbers [v] h = some (.ret undefA, h') ∧ h.length ≤ h'.length ∧ ∀ q, q < h.length → own v ≠ some q → h'[q]? = h[q]? := by
  unfold G_w0_Numbers
  rw [w0_Numbers_eq, show ((0 : Int)) = ((0 : Nat) : Int) from rfl]
  exact Numbers_loop xs.length hl big _ xs.length 0 big h xs rfl (by omega) (by rw [big_val]; omega) k
/-! ### The three functions' own results -/
theorem postO_bad {cs : List RV} {d : Cd} (hd : IsCd cs d) (e : Int) (he : e ≠ 0) (hF : F_ssa_Flow [.agg cs] = some (.ret (I e))) : ∃ h', O_flow_Post [.agg cs] = some (.ret (.tuple [.rv .nils, .rv (I e)]), h') := by
  obtain ⟨p, r, v, b, rfl, _, _, _, hb⟩ := hd
  unfold O_flow_Post
  rw [List.map_cons, List.map_nil, flow_Post_eq, box_agg, List.nil_append, List.length_nil, show List.map AV.rv [p, r, v, b] = [.rv p, .rv r, .rv v, .rv b] from rfl, ldg_at (by rfl) (by rfl), callP_ret (by simp [toRV, depthA]) hF (.inr rfl), asInt_i, bsp_of (by simpa using he)]
  exact ⟨_, rfl⟩
theorem domsO_bad {cs : List RV} {d : Cd} (hd : IsCd cs d) (e : Int) (he : e ≠ 0) (hF : F_ssa_Flow [.agg cs] = some (.ret (I e))) : ∃ h', O_flow_Doms_o [.agg cs] = some (.ret (.tuple [.rv .nils, .rv (I e)]), h') := by
  obtain ⟨p, r, v, b, rfl, _, _, _, hb⟩ := hd
  unfold O_flow_Doms_o
  rw [List.map_cons, List.map_nil, flow_Doms_o_eq, box_agg, List.nil_append, List.length_nil, show List.map AV.rv [p, r, v, b] = [.rv p, .rv r, .rv v, .rv b] from rfl, ldg_at (by rfl) (by rfl), callP_ret (by simp [toRV, depthA]) hF (.inr rfl), asInt_i, bsp_of (by simpa using he)]
  exact ⟨_, rfl⟩
theorem loopsO_bad {cs : List RV} {d : Cd} (hd : IsCd cs d) (e : Int) (he : e ≠ 0) (hF : F_ssa_Flow [.agg cs] = some (.ret (I e))) : ∃ h', O_flow_Loops [.agg cs] = some (.ret (.tuple [.rv .nils, .rv (I e)]), h') := by
  obtain ⟨p, r, v, b, rfl, _, _, _, hb⟩ := hd
  unfold O_flow_Loops
  rw [List.map_cons, List.map_nil, flow_Loops_eq, box_agg, List.nil_append, List.length_nil, show List.map AV.rv [p, r, v, b] = [.rv p, .rv r, .rv v, .rv b] from rfl, ldg_at (by rfl) (by rfl), callP_ret (by simp [toRV, depthA]) hF (.inr rfl), asInt_i, bsp_of (by simpa using he)]
  exact ⟨_, rfl⟩
theorem domsO_run {cs : List RV} {d : Cd} (hd : IsCd cs d) (hf : formOk d.blocks = true) (hq : FlowOk d.blocks) {P : List Nat} (hP : IsPost d.blocks P) :
    ∃ par v h', Done (grOf hf hq hP) par ∧ O_flow_Doms_o [.agg cs] = some (.ret (.tuple [v, .rv (I 0)]), h') ∧ IntsJ h' v (dvs par d.blocks.length) := by
  have hl : 0 < d.blocks.length ∧ d.blocks.length ≤ 4096 := by
    simp only [formOk, Bool.and_eq_true, decide_eq_true_eq] at hf
    exact hf.1
  obtain ⟨y, e1, hy⟩ := ssaPost_spec hd hl (formOk_succs hf) hP
  obtain ⟨par, h1, kd, e2, ho⟩ := Doms_run hd hf hq hP hy
  have e0 := (ssaFlow_spec hd).2.1 hf hq
  obtain ⟨p, r, v, b, rfl, _, _, _, hb⟩ := hd
  have kj : IntsJ h1 (.sl 3 0 0 d.blocks.length) (dvs par d.blocks.length) := by
    have := IntsJ.mk (h := h1) (o := 3) (v := 0) (xs := dvs par d.blocks.length) (junk := []) (by rw [List.append_nil]; exact ho)
    rw [dvs_len] at this
    exact this
  have hO : O_ssa_Doms [.agg [p, r, v, b], y] = some (.ret (.sl 3 0 0 d.blocks.length), h1) := e2
  have kj2 := kj.shift (h := [⟨0, 1, [.rv p, .rv r, .rv v, .rv b]⟩])
  refine ⟨par, _, _, kd, ?_, kj2⟩
  unfold O_flow_Doms_o
  rw [List.map_cons, List.map_nil, flow_Doms_o_eq, box_agg, List.nil_append, List.length_nil, show List.map AV.rv [p, r, v, b] = [.rv p, .rv r, .rv v, .rv b] from rfl, ldg_at (by rfl) (by rfl), callP_ret (by simp [toRV, depthA]) e0 (.inr rfl), asInt_i, bsp_not (by rfl),
    ldg_at (by rfl) (by rfl), ldg_at (by rfl) (by rfl), callP_ret (by simp [toRV, depthA]) e1 (.inl rfl), callG_ret (ownG_ret (by rfl) (by simp [toRV, depthA]) hO)]
end Go.Proofs.Ytknphnmhjmejaaa
/-  The document's postorder. No conditions. -/
namespace Go.Proofs.Ytknphnmhjmejaaa
set_option linter.unusedVariables false
structure SP (h : Hp) (os n : Nat) (S : List Nat) (seen : List Bool) : Prop where
  o : h[os]? = some ⟨0, 1, seen.map ab⟩
  len : seen.length = n
  mem : ∀ y : Nat, seen[y]? = some true ↔ y ∈ S
  nd : S.Nodup
  lt : ∀ y ∈ S, y < n
/-- What a call keeps. -/
structure PK (h h' : Hp) (os : Nat) (lv lv' : AV) : Prop where
  len : h.length ≤ h'.length
  keep : ∀ q, q < h.length → q ≠ os → own lv ≠ some q → h'[q]? = h[q]?
  own : own lv' = own lv ∨ ∃ o, own lv' = some o ∧ h.length ≤ o
theorem PK.trans {h h1 h2 : Hp} {os : Nat} {a b c : AV} (x : PK h h1 os a b) (y : PK h1 h2 os b c) : PK h h2 os a c := by
  refine ⟨Nat.le_trans x.len y.len, fun q hq h1 h2 => ?_, ?_⟩
  · rw [y.keep q (by have := x.len; omega) h1 fun e => ?_, x.keep q hq h1 h2]
    rcases x.own with e2 | ⟨o, e2, hlt⟩
    · exact h2 (by rw [← e2]; exact e)
    · rw [e2] at e; cases e; omega
  · rcases y.own with e | ⟨o, e, hlt⟩
    · rw [e]; exact x.own
    · exact .inr ⟨o, e, by have := x.len; omega⟩
section
variable {p r v b : RV} {d : Cd} {os : Nat}
theorem post_loop (hb : IsRows 6 IsBlk b d.blocks) (hsh : d.blocks.length ≤ 4096) (hok : okSuccs d.blocks) (F : List AV → Hp → Option (ARes × Hp)) (n : Nat)
    (rec : ∀ (x : Nat) (S P S1 P1 : List Nat) (seen : List Bool) (lv : AV) (h : Hp), d.blocks.length - S.length ≤ n → x < d.blocks.length → x ∉ S → Dfs (sucs d.blocks) (sucs d.blocks x) (S ++ [x]) P S1 P1 → SP h os d.blocks.length S seen → IntsJ h lv (P.map Int.ofNat) → own lv ≠ some os → P.length ≤ S.length →
      ∃ h' seen' lv', F [.agg [.rv p, .rv r, .rv v, .rv b], ai x, .sl os 0 0 d.blocks.length, lv] h = some (.ret lv', h') ∧ SP h' os d.blocks.length S1 seen' ∧ IntsJ h' lv' ((P1 ++ [x]).map Int.ofNat) ∧ PK h h' os lv lv')
    (k M x B : Nat) {sv : RV} (hx : x < d.blocks.length) (hsv : IsInts sv d.blocks[x].succs) (S1 P1 : List Nat) : ∀ (m j N : Nat) (S P : List Nat) (seen : List Bool) (lv : AV) (h : Hp), j + m = d.blocks[x].succs.length → m < N → d.blocks.length - S.length ≤ n → P.length < S.length → Dfs (sucs d.blocks) ((sucs d.blocks x).drop j) S P S1 P1 →
      SP h os d.blocks.length S seen → IntsJ h lv (P.map Int.ofNat) → own lv ≠ some os → h[B]? = some ⟨0, 1, [.rv p, .rv r, .rv v, .rv b]⟩ → B ≠ os → own lv ≠ some B →
      ∃ h' seen' lv', r13_post_l244 F k N M x (.sl os 0 0 d.blocks.length) lv (.ptr B 0 0) (.rv sv) j h = some (.ret lv', h') ∧ SP h' os d.blocks.length S1 seen' ∧ IntsJ h' lv' ((P1 ++ [x]).map Int.ofNat) ∧ PK h h' os lv lv' := by
  have hs := hsv.short
  intro m
  induction m with
  | zero =>
    intro j N S P seen lv h hj hN hn hlt hdf sp kj ho hB hBo hBl
    obtain ⟨N, rfl⟩ : ∃ q, N = q + 1 := ⟨N - 1, by omega⟩
    rw [List.drop_eq_nil_of_le (by rw [sucs_at hx, List.length_map]; omega)] at hdf
    obtain ⟨rfl, rfl⟩ := hdf.nil_inv
    have hSl : S1.length ≤ d.blocks.length := nodup_le _ _ sp.nd sp.lt
    obtain ⟨w, h3, hK, kw, hl3, hkeep, how⟩ := kj.push (by simp; omega) (x : Int)
    rw [r13_post_l244_eq, hsv.len, bsp_not (decide_eq_false (by omega)), r13_post_p31_eq, hK]
    have hos := get_lt sp.o
    refine ⟨h3, seen, w, rfl, ⟨by rw [hkeep os hos ho]; exact sp.o, sp.len, sp.mem, sp.nd, sp.lt⟩, by rw [List.map_append]; exact kw, ⟨by omega, fun q hq _ h2 => hkeep q hq h2, ?_⟩⟩
    rcases how with e | ⟨o, e, hlt'⟩
    · exact .inl e
    · exact .inr ⟨o, e, by omega⟩
  | succ m ih =>
    intro j N S P seen lv h hj hN hn hlt hdf sp kj ho hB hBo hBl
    obtain ⟨N, rfl⟩ : ∃ q, N = q + 1 := ⟨N - 1, by omega⟩
    have hjl : j < d.blocks[x].succs.length := by omega
    obtain ⟨y, hy, hyl⟩ := hok x d.blocks[x] (List.getElem?_eq_getElem hx) d.blocks[x].succs[j] (List.getElem_mem hjl)
    have hsl : j < (sucs d.blocks x).length := by rw [sucs_at hx, List.length_map]; exact hjl
    have hsy : (sucs d.blocks x)[j] = y := by
      have : (sucs d.blocks x)[j]? = some y := by rw [sucs_at hx, List.getElem?_map, List.getElem?_eq_getElem hjl, hy]; rfl
      rw [List.getElem?_eq_getElem hsl] at this
      exact Option.some.inj this
    rw [List.drop_eq_getElem_cons hsl, hsy] at hdf
    obtain ⟨w, hw⟩ : ∃ w, seen[y]? = some w := ⟨seen[y]'(by rw [sp.len]; exact hyl), List.getElem?_eq_getElem _⟩
    have hwm : w = true ↔ y ∈ S := by rw [← sp.mem y, hw]; simp
    rw [r13_post_l244_eq, hsv.len, bsp_of (decide_eq_true (by omega)), hsv.at hjl, hy, sl_at hyl, ldb_at (b := w) sp.o (by simp [hw])]
    cases hdf with
    | seen hm q =>
      rw [hwm.2 hm, bsp_not (by rfl), r13_post_p979_eq, wri_succ (by omega)]
      exact ih (j + 1) N S P seen lv h (by omega) (by omega) hn hlt q sp kj ho hB hBo hBl
    | @go _ _ _ _ S2 P2 _ _ hm r1 r2 =>
      have hwf : w = false := by
        cases w with
        | true => exact absurd (hwm.1 rfl) hm
        | false => rfl
      obtain ⟨h', seen', lv', e, sp', kj', pk⟩ := rec y S P S2 P2 seen lv h hn hyl hm r1 sp kj ho (by omega)
      have hBlt := get_lt hB
      have hoslt := get_lt sp.o
      have fresh : ∀ q, q < h.length → own lv ≠ some q → own lv' ≠ some q := by
        intro q hq hne e
        rcases pk.own with e2 | ⟨o, e2, hlt'⟩
        · rw [e2] at e; exact hne e
        · rw [e2] at e; cases e; omega
      obtain ⟨NN, Q, kf⟩ := r1.found
      have h1 : S2.length = S.length + 1 + NN.length := by rw [kf.s]; simp; omega
      have h2 : P2.length = P.length + Q.length := by rw [kf.p]; simp
      have h3 := kf.len
      rw [hwf, bsp_of (by rfl), ldg_at (n := 4) hB rfl, hsv.at hjl, hy, callG_ret e, r13_post_p979_eq, wri_succ (by omega)]
      obtain ⟨h4, seen4, lv4, e4, sp4, kj4, pk4⟩ := ih (j + 1) N S2 (P2 ++ [y]) seen' lv' h' (by omega) (by omega) (by omega) (by simp; omega) r2 sp' kj' (fresh os hoslt ho) (by rw [pk.keep B hBlt hBo hBl]; exact hB) hBo (fresh B hBlt hBl)
      exact ⟨h4, seen4, lv4, e4, sp4, kj4, pk.trans pk4⟩
theorem post_spec (hb : IsRows 6 IsBlk b d.blocks) (hsh : d.blocks.length ≤ 4096) (hok : okSuccs d.blocks) : ∀ (n x : Nat) (S P S1 P1 : List Nat) (seen : List Bool) (lv : AV) (h : Hp), d.blocks.length - S.length ≤ n → x < d.blocks.length → x ∉ S → Dfs (sucs d.blocks) (sucs d.blocks x) (S ++ [x]) P S1 P1 → SP h os d.blocks.length S seen → IntsJ h lv (P.map Int.ofNat) → own lv ≠ some os → P.length ≤ S.length →
      ∃ h' seen' lv', GR_r13_post n [.agg [.rv p, .rv r, .rv v, .rv b], ai x, .sl os 0 0 d.blocks.length, lv] h = some (.ret lv', h') ∧ SP h' os d.blocks.length S1 seen' ∧ IntsJ h' lv' ((P1 ++ [x]).map Int.ofNat) ∧ PK h h' os lv lv' := by
  intro n
  induction n with
  | zero =>
    intro x S P S1 P1 seen lv h hn hx hxS hdf sp
    have := nodup_le d.blocks.length (S ++ [x]) (nodup_snoc sp.nd hxS) (fun y hy => by
      rcases List.mem_append.1 hy with h | h
      · exact sp.lt y h
      · simp at h; subst h; exact hx)
    simp at this
    omega
  | succ n ih =>
    intro x S P S1 P1 seen lv h hn hx hxS hdf sp kj ho hPl
    have e2 : ∀ (K : AV → Hp → Option (ARes × Hp)), nwc 1 (vcells (.agg [.rv p, .rv r, .rv v, .rv b])) h K = K (.ptr h.length 0 0) (h ++ [⟨0, 1, [.rv p, .rv r, .rv v, .rv b]⟩]) := fun K => rfl
    have hxs : x < seen.length := by rw [sp.len]; exact hx
    have hosl := get_lt sp.o
    obtain ⟨h4, eh4⟩ : ∃ h4 : Hp, h4 = (h ++ [(⟨0, 1, [.rv p, .rv r, .rv v, .rv b]⟩ : Ob)]).set os ⟨0, 1, (seen.map ab).set x (ab true)⟩ := ⟨_, rfl⟩
    have hB : h4[h.length]? = some ⟨0, 1, [.rv p, .rv r, .rv v, .rv b]⟩ := by rw [eh4]; exact get_set_ne (by omega) (get_new _)
    have hs4 : h4[os]? = some ⟨0, 1, (seen.set x true).map ab⟩ := by rw [eh4, List.map_set]; exact get_set_eq (get_old sp.o _)
    have sp4 : SP h4 os d.blocks.length (S ++ [x]) (seen.set x true) := by
      refine ⟨hs4, by rw [List.length_set]; exact sp.len, fun y => ?_, nodup_snoc sp.nd hxS, fun y hy => ?_⟩
      · rw [List.getElem?_set, List.mem_append, ← sp.mem y]
        by_cases e : x = y
        · subst e; simp [hxs]
        · rw [if_neg e]
          have : ¬ y = x := fun h => e h.symm
          simp [this]
      · rcases List.mem_append.1 hy with h | h
        · exact sp.lt y h
        · have : y = x := by simpa using h
          omega
    have hkl : ∀ q, q < h.length → q ≠ os → h4[q]? = h[q]? := fun q hq hne => by rw [eh4, List.getElem?_set_ne (fun e => hne e.symm), List.getElem?_append_left hq]
    have kj4 : IntsJ h4 lv (P.map Int.ofNat) := kj.mono fun q hq => hkl q (kj.ownlt hq) fun e => ho (by rw [← e]; exact hq)
    have hBl : own lv ≠ some h.length := fun e => by have := kj.ownlt e; omega
    obtain ⟨a, q, s, t, rest, j1, j2, j3, j4, hbx⟩ := blk_at (R := ARes × Hp) hb hx
    have hs := j3.short
    have hl4 : h4.length = h.length + 1 := by rw [eh4]; simp
    obtain ⟨h', seen', lv', e, sp', kj', pk⟩ := post_loop hb hsh hok (GR_r13_post n) n ih big h4.length x h.length hx j3 S1 P1 d.blocks[x].succs.length 0 big (S ++ [x]) P (seen.set x true) lv h4 (by omega) (by rw [big_val]; omega) (by simp; omega) (by simp; omega) (by simpa using hdf) sp4 kj4 ho hB (by omega) hBl
    refine ⟨h', seen', lv', ?_, sp', kj', ⟨by have := pk.len; omega, fun q hq h1 h2 => ?_, ?_⟩⟩
    · rw [GR_r13_post_succ, r13_post_eq, e2, sl_at hx, stv_at (get_old sp.o _) (by simpa using hxs) rfl rfl, ← eh4, pad_ptr, ldv_at hB (x := .rv b) rfl, hbx, pad_rop4, ldv_rop, show ((0 : Int)) = ((0 : Nat) : Int) from rfl, e]
    · rw [pk.keep q (by omega) h1 h2, hkl q hq h1]
    · rcases pk.own with e | ⟨o, e, hlt⟩
      · exact .inl e
      · exact .inr ⟨o, e, by omega⟩
end
theorem refPost_spec {cs : List RV} {d : Cd} (hd : IsCd cs d) (hf : formOk d.blocks = true) {P : List Nat} (hP : IsPost d.blocks P) : ∃ x, F_r13_Post [.agg cs] = some (.ret x) ∧ IsInts x (P.map Int.ofNat) := by
  have hl : 0 < d.blocks.length ∧ d.blocks.length ≤ 4096 := by
    simp only [formOk, Bool.and_eq_true, decide_eq_true_eq] at hf
    exact hf.1
  have hok := formOk_succs hf
  have hnl := (hP.facts hok hl.1).2.2
  obtain ⟨S, hdf⟩ := hP
  have hdf' : ∃ P0, P = P0 ++ [0] ∧ Dfs (sucs d.blocks) (sucs d.blocks 0) ([] ++ [0]) [] S P0 := by
    cases hdf with
    | seen h => simp at h
    | go _ r1 r2 =>
      obtain ⟨rfl, rfl⟩ := r2.nil_inv
      exact ⟨_, rfl, by simpa using r1⟩
  obtain ⟨P0, hP0, hdf0⟩ := hdf'
  obtain ⟨p, r, v, b, rfl, _, _, _, hb⟩ := hd
  have hz : ∀ n : Nat, zrep [ab false] n = (List.replicate n false).map ab := by
    intro n; simp [zrep]
  obtain ⟨h1, eh1⟩ : ∃ h1 : Hp, h1 = [⟨0, 1, [.rv p, .rv r, .rv v, .rv b]⟩, ⟨0, 1, (List.replicate d.blocks.length false).map ab⟩] := ⟨_, rfl⟩
  have sp : SP h1 1 d.blocks.length [] (List.replicate d.blocks.length false) := by
    refine ⟨by rw [eh1]; rfl, by simp, fun y => ?_, by simp, by simp⟩
    rw [List.getElem?_replicate]
    split <;> simp
  obtain ⟨h', seen', lv', e, _, kj, _⟩ := post_spec (p := p) (r := r) (v := v) (os := 1) hb hl.2 hok big 0 [] [] S P0 _ (.rv .nils) h1 (by rw [big_val]; simp; omega) hl.1 (by simp) hdf0 sp .nil (by simp [own]) (by simp)
  rw [← hP0] at kj
  obtain ⟨x, hx, hix⟩ := kj.done (by simp; omega)
  refine ⟨x, ?_, hix⟩
  unfold F_r13_Post
  rw [List.map_cons, List.map_nil, r13_Post_eq, box_agg, List.nil_append, List.length_nil, show List.map AV.rv [p, r, v, b] = [.rv p, .rv r, .rv v, .rv b] from rfl, ldg_at (by rfl) (by rfl), pad_ptr, ldv_at (by rfl) (x := .rv b) (by rfl), hb.len, mks_one (by omega) (by omega), hz]
  have e1 : ([⟨0, 1, [.rv p, .rv r, .rv v, .rv b]⟩] ++ [(⟨0, 1, (List.replicate d.blocks.length false).map ab⟩ : Ob)] : Hp) = h1 := by rw [eh1]; rfl
  have e2 : ∀ (K : Option (ARes × Hp)), svg 4 h1 (.ptr 0 0 0) (.agg [.rv p, .rv r, .rv v, .rv b]) K = K := by
    intro K
    unfold svg
    rw [if_pos]
    exact ⟨_, by rw [eh1]; rfl, rfl⟩
  have e3 : ([⟨0, 1, [.rv p, .rv r, .rv v, .rv b]⟩] : Hp).length = 1 := rfl
  have e4 : G_r13_post [.agg [.rv p, .rv r, .rv v, .rv b], .rv (.int .i64 0), .sl 1 0 0 d.blocks.length, .rv .nils] h1 = some (.ret lv', h') := e
  rw [e1, e2, e3, callG_ret e4]
  simp [pureR, hx]
end Go.Proofs.Ytknphnmhjmejaaa
/-  The document's immediate dominators. No conditions. -/
namespace Go.Proofs.Ytknphnmhjmejaaa
set_option linter.unusedVariables false
theorem IsBools.at {R : Type} {x : RV} {bs : List Bool} (k : IsBools x bs) {h : Hp} {i : Nat} {q : Bool} (hi : bs[i]? = some q) (K : Bool → Option R) : (ixa 1 (.rv x) i fun p => ldb h p K) = K q := by
  have hl := (List.getElem?_eq_some_iff.1 hi).1
  subst k
  have : ((i : Int) < bs.length) := by omega
  have h2 : (bs.map RV.bool)[i]? = some (.bool q) := by rw [List.getElem?_map, hi]; rfl
  simp [ixa, ldb, ldv, cellAt, asBool0, this, h2]
def il (f : Nat → Int) (n : Nat) : List Int := (List.range n).map f
theorem il_len (f : Nat → Int) (n : Nat) : (il f n).length = n := by simp [il]
theorem il_at {f : Nat → Int} {n x : Nat} (hx : x < n) : ((il f n).map ai)[x]? = some (ai (f x)) := by simp [il, hx]
theorem il_set {f g : Nat → Int} {n x : Nat} {c : Int} (hx : x < n) (hg : ∀ y, g y = if y = x then c else f y) : ((il f n).map ai).set x (ai c) = (il g n).map ai := by
  apply List.ext_getElem?
  intro i
  by_cases hi : i < n
  · rw [il_at hi, List.getElem?_set, hg]
    by_cases e : x = i
    · subst e
      rw [if_pos rfl, if_pos (by simp [il_len, hx]), if_pos rfl]
    · rw [if_neg e, il_at hi, if_neg (fun h => e h.symm)]
  · rw [List.getElem?_eq_none (by simp [il_len]; omega), List.getElem?_eq_none (by simp [il_len]; omega)]
theorem il_congr {f g : Nat → Int} {n : Nat} (h : ∀ x, x < n → f x = g x) : il f n = il g n := by
  unfold il
  exact List.map_congr_left fun x hx => h x (List.mem_range.1 hx)
theorem countP_more {p q : Nat → Bool} {y : Nat} (h : ∀ e, p e = (q e || decide (e = y))) (hq : q y = false) : ∀ n, (List.range n).countP p = (List.range n).countP q + if y < n then 1 else 0
  | 0 => by simp
  | n + 1 => by
    rw [List.range_succ, List.countP_append, List.countP_append, countP_more h hq n]
    simp only [List.countP_cons, List.countP_nil, h n]
    by_cases e : n = y
    · subst e
      simp [hq]
    · by_cases hlt : y < n
      · simp [e, hlt, show y < n + 1 by omega]; omega
      · simp [e, hlt, show ¬ y < n + 1 by omega]
section
variable {G : Gr} {par : Par} {P : List Nat} {n : Nat}
open Classical in
/-- Stands a block strictly above another one? -/
noncomputable def abv (par : Par) (P : List Nat) (x e : Nat) : Bool := decide (x ∈ P ∧ e ∈ P ∧ e ≠ x ∧ Anc par x e)
noncomputable def cnt (par : Par) (P : List Nat) (k x : Nat) : Nat := (List.range k).countP (abv par P x)
theorem abv_iff {x e : Nat} : abv par P x e = true ↔ x ∈ P ∧ e ∈ P ∧ e ≠ x ∧ Anc par x e := by simp [abv]
theorem cnt_succ (k x : Nat) : cnt par P (k + 1) x = cnt par P k x + if abv par P x k = true then 1 else 0 := by
  simp only [cnt, List.range_succ, List.countP_append, List.countP_cons, List.countP_nil]
  omega
theorem cnt_le (k x : Nat) : cnt par P k x ≤ k := by
  unfold cnt
  have : (List.range k).countP (abv par P x) ≤ (List.range k).length := List.countP_le_length
  simpa using this
theorem cnt_par (kd : Done G par) (g : GrP G P n) {x y : Nat} (h0 : x ≠ 0) (hp : par x = some y) : cnt par P n x = cnt par P n y + 1 := by
  obtain ⟨hx, hy, hlt, _⟩ := kd.k.up x y h0 hp
  have hxP := (g.mem x).1 hx
  have hyP := (g.mem y).1 hy
  have hne : y ≠ x := by rintro rfl; omega
  have hyn := g.lt y hyP
  have h1 : ∀ e, abv par P x e = (abv par P y e || decide (e = y)) := by
    intro e
    rw [Bool.eq_iff_iff, Bool.or_eq_true, decide_eq_true_eq, abv_iff, abv_iff]
    constructor
    · rintro ⟨_, h2, h3, h4⟩
      by_cases e2 : e = y
      · exact .inr e2
      · exact .inl ⟨hyP, h2, e2, h4.next (fun h => h3 h.symm) hp⟩
    · rintro (⟨_, h2, h3, h4⟩ | rfl)
      · refine ⟨hxP, h2, ?_, .step hp h4⟩
        rintro rfl
        have := kd.k.le' h4
        omega
      · exact ⟨hxP, hyP, hne, .step hp (.refl _)⟩
  have h2 : abv par P y y = false := by
    cases h : abv par P y y with
    | false => rfl
    | true => exact absurd rfl (abv_iff.1 h).2.2.1
  unfold cnt
  rw [countP_more h1 h2 n, if_pos hyn]
theorem cnt_up (kd : Done G par) (g : GrP G P n) {x d : Nat} (h : Anc par x d) (hx : G.N x) (hne : x ≠ d) : cnt par P n d < cnt par P n x := by
  induction h with
  | refl => exact absurd rfl hne
  | @step x y d hp r ih =>
    have h0 : x ≠ 0 := by
      rintro rfl
      rw [kd.k.root] at hp
      cases hp
      exact hne (kd.k.nz r rfl).symm
    have hc := cnt_par kd g h0 hp
    have hy := (kd.k.up x y h0 hp).2.1
    by_cases e : y = d
    · subst e; omega
    · have := ih hy e
      omega
theorem cnt_exact (kd : Done G par) (g : GrP G P n) {b d : Nat} (hb : G.N b) (h : Anc par b d) (hne : b ≠ d) : cnt par P n b = cnt par P n d + 1 ↔ par b = some d := by
  have h0 : b ≠ 0 := by
    rintro rfl
    exact hne (kd.k.nz h rfl).symm
  obtain ⟨y, hp⟩ := Option.ne_none_iff_exists'.1 (kd.all b hb)
  have hc := cnt_par kd g h0 hp
  have ha := h.next hne hp
  constructor
  · intro e
    by_cases e2 : y = d
    · rw [← e2]; exact hp
    · have := cnt_up kd g ha (kd.k.up b y h0 hp).2.1 e2
      omega
  · intro e
    rw [hp] at e
    cases e
    exact hc
end
structure DD (h : Hp) (n : Nat) (cells : List AV) (I D : Nat → Int) : Prop where
  c : h[0]? = some ⟨0, 1, cells⟩
  i : h[1]? = some ⟨0, 1, (il I n).map ai⟩
  d : h[2]? = some ⟨0, 1, (il D n).map ai⟩
noncomputable def st1 (par : Par) (P : List Nat) (d j : Nat) : Nat → Int := fun x => (cnt par P (if x < j then d + 1 else d) x : Nat)
open Classical in
noncomputable def st2 (par : Par) (k j : Nat) : Nat → Int := fun x => if x ≠ 0 ∧ ∃ e, par x = some e ∧ (e < k ∨ (e = k ∧ x < j)) then dv par x else -1
section
variable {par : Par} {P : List Nat} {p r v b : RV} {d : Cd} {cs : List RV}
theorem dd_fill {n : Nat} (hn : n ≤ 4096) (k M : Nat) (x1 : AV) (Z : Option (ARes × Hp) → Prop) (cells : List AV) (outer : ∀ h, DD h n cells (fun _ => -1) (fun _ => 0) → Z (r13_Doms_p31 k x1 (.sl 1 0 0 n) (.sl 2 0 0 n) h)) :
    ∀ (m j N : Nat) (h : Hp), j + m = n → m < N → DD h n cells (fun x => if x < j then -1 else 0) (fun _ => 0) → Z (r13_Doms_l244 k N M x1 (.sl 1 0 0 n) (.sl 2 0 0 n) j h) := by
  intro m
  induction m with
  | zero =>
    intro j N h hj hN dd
    obtain ⟨N, rfl⟩ : ∃ q, N = q + 1 := ⟨N - 1, by omega⟩
    rw [r13_Doms_l244_eq, sl_len, bsp_not (decide_eq_false (by omega))]
    refine outer h ⟨dd.c, ?_, dd.d⟩
    rw [dd.i, il_congr (g := fun _ => -1) fun x hx => if_pos (by omega)]
  | succ m ih =>
    intro j N h hj hN dd
    obtain ⟨N, rfl⟩ : ∃ q, N = q + 1 := ⟨N - 1, by omega⟩
    have hjn : j < n := by omega
    rw [r13_Doms_l244_eq, sl_len, bsp_of (decide_eq_true (by omega)), sl_at hjn, stv_at dd.i (by simp [il_len]; omega) rfl rfl, il_set (g := fun x => if x < j + 1 then -1 else 0) hjn (fun y => by
      by_cases e : y = j
      · simp [e]
      · by_cases e2 : y < j
        · simp [e, e2, show y < j + 1 by omega]
        · simp [e, e2, show ¬ y < j + 1 by omega]), wri_succ (by omega)]
    exact ih (j + 1) N _ (by omega) (by omega) ⟨get_set_ne (by omega) dd.c, get_set_eq dd.i, get_set_ne (by omega) dd.d⟩
/-- What the document asks of two blocks. -/
theorem seen_abv {hf : formOk d.blocks = true} {hq : FlowOk d.blocks} {hP : IsPost d.blocks P} (kd : Done (grOf hf hq hP) par) {seen : List Bool} {e x : Nat} {w : Bool} (hseen : ∀ j : Nat, seen[j]? = some true ↔ (e : Int) ≠ 0 ∧ Rch d.blocks (e : Int) 0 j) (hw : seen[x]? = some w) (hx : x ∈ P) : w = false ↔ Anc par x e := by
  rw [kd.exact (b := x) (d := e) hx, av_rch hf hq hP hx]
  have := hseen x
  rw [hw] at this
  cases w with
  | false => simp at this ⊢; exact this
  | true => simp at this ⊢; exact this
theorem dd_inner (hcd : IsCd [p, r, v, b] d) (hf : formOk d.blocks = true) (hq : FlowOk d.blocks) (hP : IsPost d.blocks P) (kd : Done (grOf hf hq hP) par) (k N5 M5 M e : Nat) (hel : e < d.blocks.length) (heP : e ∈ P) {sb : RV} {seen : List Bool} (hsb : IsBools sb seen) (hsl : seen.length = d.blocks.length) (hseen : ∀ j : Nat, seen[j]? = some true ↔ (e : Int) ≠ 0 ∧ Rch d.blocks (e : Int) 0 j)
    (Z : Option (ARes × Hp) → Prop) (II : Nat → Int) (outer : ∀ h, DD h d.blocks.length [.rv p, .rv r, .rv v, .rv b] II (st1 par P (e + 1) 0) → Z (r13_Doms_p2003 k N5 M5 (.ptr 0 0 0) (.sl 1 0 0 d.blocks.length) (.sl 2 0 0 d.blocks.length) e h)) :
    ∀ (m j N : Nat) (h : Hp), j + m = d.blocks.length → m < N → DD h d.blocks.length [.rv p, .rv r, .rv v, .rv b] II (st1 par P e j) → Z (r13_Doms_l128156 k N5 M5 N M (.ptr 0 0 0) (.sl 1 0 0 d.blocks.length) (.sl 2 0 0 d.blocks.length) e (.rv sb) j h) := by
  have hsh : d.blocks.length ≤ 4096 := by
    simp only [formOk, Bool.and_eq_true, decide_eq_true_eq] at hf
    exact hf.1.2
  obtain ⟨p, r, v, b, ee, _, _, _, hb⟩ := hcd
  cases ee
  intro m
  induction m with
  | zero =>
    intro j N h hj hN dd
    obtain ⟨N, rfl⟩ : ∃ q, N = q + 1 := ⟨N - 1, by omega⟩
    rw [r13_Doms_l128156_eq, pad_ptr, ldv_at dd.c (x := .rv b) rfl, hb.len, bsp_not (decide_eq_false (by omega))]
    refine outer h ⟨dd.c, dd.i, ?_⟩
    rw [dd.d, il_congr (g := st1 par P (e + 1) 0) fun x hx => by unfold st1; rw [if_pos (by omega), if_neg (by omega)]]
  | succ m ih =>
    intro j N h hj hN dd
    obtain ⟨N, rfl⟩ : ∃ q, N = q + 1 := ⟨N - 1, by omega⟩
    have hjn : j < d.blocks.length := by omega
    obtain ⟨a, q, s, t, rest', k1, k2, k3, k4, hbx⟩ := blk_at (R := ARes × Hp) hb hjn
    have hbk : IsBlk [I d.blocks[j].kind, I d.blocks[j].n, a, q, s, t] d.blocks[j] := ⟨a, q, s, t, rfl, k1, k2, k3, k4⟩
    have go : ∀ c : Bool, (c = true ↔ abv par P j e = true) → Z (r13_Doms_p2050505 k N5 M5 N M (.ptr 0 0 0) (.sl 1 0 0 d.blocks.length) (.sl 2 0 0 d.blocks.length) e (.rv sb) j c h) := by
      intro c hc
      have hcs := cnt_succ (par := par) (P := P) e j
      have hle := cnt_le (par := par) (P := P) e j
      cases c with
      | true =>
        have hab := hc.1 rfl
        rw [if_pos hab] at hcs
        have hsj : st1 par P e j j = (cnt par P e j : Nat) := by unfold st1; rw [if_neg (by omega)]
        have hn1 : wri .i64 ((cnt par P e j : Nat) + 1) = ((cnt par P e j + 1 : Nat) : Int) := wri_succ (by omega)
        rw [r13_Doms_p2050505_eq, bsp_of rfl, sl_at hjn, ldi_at dd.d (n := (cnt par P e j : Nat)) (by rw [il_at hjn, hsj]), sl_at hjn, hn1, stv_at dd.d (by simp [il_len]; exact hjn) rfl rfl, il_set (g := st1 par P e (j + 1)) hjn (fun y => by
          unfold st1
          by_cases e1 : y = j
          · subst e1
            rw [if_pos (by omega), if_pos rfl, hcs]
          · rw [if_neg e1]
            by_cases e2 : y < j
            · rw [if_pos (by omega), if_pos e2]
            · rw [if_neg (by omega), if_neg e2]), r13_Doms_p512627_eq, wri_succ (by omega)]
        exact ih (j + 1) N _ (by omega) (by omega) ⟨get_set_ne (by omega) dd.c, get_set_ne (by omega) dd.i, get_set_eq dd.d⟩
      | false =>
        have hab : ¬ abv par P j e = true := fun h => Bool.noConfusion (hc.2 h)
        rw [if_neg hab] at hcs
        rw [r13_Doms_p2050505_eq, bsp_not rfl, r13_Doms_p512627_eq, wri_succ (by omega)]
        refine ih (j + 1) N h (by omega) (by omega) ⟨dd.c, dd.i, ?_⟩
        rw [dd.d, il_congr (g := st1 par P e (j + 1)) fun y _ => by
          unfold st1
          by_cases e1 : y = j
          · subst e1
            rw [if_neg (by omega), if_pos (by omega), hcs]
            rfl
          · by_cases e2 : y < j
            · rw [if_pos e2, if_pos (by omega)]
            · rw [if_neg e2, if_neg (by omega)]]
    rw [r13_Doms_l128156_eq, pad_ptr, ldv_at dd.c (x := .rv b) rfl, hb.len, bsp_of (decide_eq_true (by omega))]
    by_cases hje : j = e
    · rw [bsp_not (by rw [bne_eq_false_iff_eq]; omega)]
      exact go false ⟨fun h => (by cases h), fun h => absurd hje.symm (abv_iff.1 h).2.2.1⟩
    · rw [bsp_of (by rw [bne_iff_ne]; omega), pad_ptr, ldv_at dd.c (x := .rv b) rfl, hbx, ldg6, callP_ret (by simp [toRV, depthA]) (Hole_spec hbk) (.inr rfl), asBool_b]
      by_cases h0 : d.blocks[j].kind = 0
      · rw [bsp_not (by simp [h0])]
        exact go false ⟨fun h => (by cases h), fun h => absurd h0 ((post_kind hf hq hP (List.getElem?_eq_getElem hjn)).1 (abv_iff.1 h).1)⟩
      · have hjP : j ∈ P := (post_kind hf hq hP (List.getElem?_eq_getElem hjn)).2 h0
        obtain ⟨w, hw⟩ : ∃ w, seen[j]? = some w := ⟨_, List.getElem?_eq_getElem (by rw [hsl]; exact hjn)⟩
        have hsa := seen_abv kd hseen hw hjP
        rw [bsp_of (by simpa using h0), hsb.at hw]
        refine go _ ?_
        rw [abv_iff]
        cases w with
        | true => exact ⟨fun h => (by cases h), fun h => Bool.noConfusion (hsa.2 h.2.2.2)⟩
        | false => exact ⟨fun _ => ⟨hjP, heP, fun h => hje h.symm, hsa.1 rfl⟩, fun _ => rfl⟩
theorem dd_outer (hcd : IsCd [p, r, v, b] d) (hf : formOk d.blocks = true) (hq : FlowOk d.blocks) (hP : IsPost d.blocks P) (kd : Done (grOf hf hq hP) par) (k M : Nat) (hk : 1000000000 < k) (Z : Option (ARes × Hp) → Prop) (II : Nat → Int)
    (outer : ∀ h, DD h d.blocks.length [.rv p, .rv r, .rv v, .rv b] II (st1 par P d.blocks.length 0) → Z (r13_Doms_p63 k (.ptr 0 0 0) (.sl 1 0 0 d.blocks.length) (.sl 2 0 0 d.blocks.length) h)) :
    ∀ (m e N : Nat) (h : Hp), e + m = d.blocks.length → m < N → DD h d.blocks.length [.rv p, .rv r, .rv v, .rv b] II (st1 par P e 0) → Z (r13_Doms_l500 k N M (.ptr 0 0 0) (.sl 1 0 0 d.blocks.length) (.sl 2 0 0 d.blocks.length) e h) := by
  have hsh : d.blocks.length ≤ 4096 := by
    simp only [formOk, Bool.and_eq_true, decide_eq_true_eq] at hf
    exact hf.1.2
  have hcd' := hcd
  obtain ⟨p, r, v, b, ee, _, _, _, hb⟩ := hcd
  cases ee
  intro m
  induction m with
  | zero =>
    intro e N h hj hN dd
    obtain ⟨N, rfl⟩ : ∃ q, N = q + 1 := ⟨N - 1, by omega⟩
    obtain rfl : e = d.blocks.length := by omega
    rw [r13_Doms_l500_eq, pad_ptr, ldv_at dd.c (x := .rv b) rfl, hb.len, bsp_not (decide_eq_false (by omega))]
    exact outer h dd
  | succ m ih =>
    intro e N h hj hN dd
    obtain ⟨N, rfl⟩ : ∃ q, N = q + 1 := ⟨N - 1, by omega⟩
    have hen : e < d.blocks.length := by omega
    obtain ⟨a, q, s, t, rest', k1, k2, k3, k4, hbx⟩ := blk_at (R := ARes × Hp) hb hen
    have hbk : IsBlk [I d.blocks[e].kind, I d.blocks[e].n, a, q, s, t] d.blocks[e] := ⟨a, q, s, t, rfl, k1, k2, k3, k4⟩
    have next : ∀ h, DD h d.blocks.length [.rv p, .rv r, .rv v, .rv b] II (st1 par P (e + 1) 0) → Z (r13_Doms_p2003 k N M (.ptr 0 0 0) (.sl 1 0 0 d.blocks.length) (.sl 2 0 0 d.blocks.length) e h) := by
      intro h dd
      rw [r13_Doms_p2003_eq, wri_succ (by omega)]
      exact ih (e + 1) N h (by omega) (by omega) dd
    rw [r13_Doms_l500_eq, pad_ptr, ldv_at dd.c (x := .rv b) rfl, hb.len, bsp_of (decide_eq_true (by omega)), pad_ptr, ldv_at dd.c (x := .rv b) rfl, hbx, ldg6, callP_ret (by simp [toRV, depthA]) (Hole_spec hbk) (.inr rfl), asBool_b]
    by_cases h0 : d.blocks[e].kind = 0
    · rw [bsp_of (by simpa using h0)]
      refine next h ⟨dd.c, dd.i, ?_⟩
      rw [dd.d, il_congr (g := st1 par P (e + 1) 0) fun y _ => by
        unfold st1
        rw [if_neg (by omega), if_neg (by omega), cnt_succ, if_neg fun h => (post_kind hf hq hP (List.getElem?_eq_getElem hen)).1 (abv_iff.1 h).2.1 h0]
        rfl]
    · have heP : e ∈ P := (post_kind hf hq hP (List.getElem?_eq_getElem hen)).2 h0
      obtain ⟨sb, seen, er, hsb, hsl, hseen⟩ := Reached_spec hcd' hf (e : Int)
      rw [bsp_not (by simpa using h0), ldg_at (n := 4) dd.c rfl, callP_ret (by simp [toRV, depthA]) er (.inl rfl), show ((0 : Int)) = ((0 : Nat) : Int) from rfl]
      exact dd_inner hcd' hf hq hP kd k N M _ e hen heP hsb hsl hseen Z II next d.blocks.length 0 k h (by omega) (by omega) dd
theorem de_inner (hcd : IsCd [p, r, v, b] d) (hf : formOk d.blocks = true) (hq : FlowOk d.blocks) (hP : IsPost d.blocks P) (kd : Done (grOf hf hq hP) par) (k N5 M5 M e : Nat) (hel : e < d.blocks.length) (heP : e ∈ P) {sb : RV} {seen : List Bool} (hsb : IsBools sb seen) (hsl : seen.length = d.blocks.length) (hseen : ∀ j : Nat, seen[j]? = some true ↔ (e : Int) ≠ 0 ∧ Rch d.blocks (e : Int) 0 j)
    (Z : Option (ARes × Hp) → Prop) (outer : ∀ h, DD h d.blocks.length [.rv p, .rv r, .rv v, .rv b] (st2 par (e + 1) 0) (st1 par P d.blocks.length 0) → Z (r13_Doms_p4051 k N5 M5 (.ptr 0 0 0) (.sl 1 0 0 d.blocks.length) (.sl 2 0 0 d.blocks.length) e h)) :
    ∀ (m j N : Nat) (h : Hp), j + m = d.blocks.length → m < N → DD h d.blocks.length [.rv p, .rv r, .rv v, .rv b] (st2 par e j) (st1 par P d.blocks.length 0) → Z (r13_Doms_l259228 k N5 M5 N M (.ptr 0 0 0) (.sl 1 0 0 d.blocks.length) (.sl 2 0 0 d.blocks.length) e (.rv sb) j h) := by
  have hsh : d.blocks.length ≤ 4096 := by
    simp only [formOk, Bool.and_eq_true, decide_eq_true_eq] at hf
    exact hf.1.2
  have g := grP hf hq hP
  obtain ⟨p, r, v, b, ee, _, _, _, hb⟩ := hcd
  cases ee
  have hD : ∀ x, st1 par P d.blocks.length 0 x = (cnt par P d.blocks.length x : Nat) := fun x => by unfold st1; rw [if_neg (by omega)]
  intro m
  induction m with
  | zero =>
    intro j N h hj hN dd
    obtain ⟨N, rfl⟩ : ∃ q, N = q + 1 := ⟨N - 1, by omega⟩
    rw [r13_Doms_l259228_eq, pad_ptr, ldv_at dd.c (x := .rv b) rfl, hb.len, bsp_not (decide_eq_false (by omega))]
    refine outer h ⟨dd.c, ?_, dd.d⟩
    rw [dd.i, il_congr (g := st2 par (e + 1) 0) fun x hx => by
      unfold st2
      have : (x ≠ 0 ∧ ∃ z, par x = some z ∧ (z < e ∨ z = e ∧ x < j)) ↔ (x ≠ 0 ∧ ∃ z, par x = some z ∧ (z < e + 1 ∨ z = e + 1 ∧ x < 0)) := by
        refine and_congr_right fun _ => exists_congr fun z => and_congr_right fun _ => ?_
        omega
      simp only [this]]
  | succ m ih =>
    intro j N h hj hN dd
    obtain ⟨N, rfl⟩ : ∃ q, N = q + 1 := ⟨N - 1, by omega⟩
    have hjn : j < d.blocks.length := by omega
    obtain ⟨a, q, s, t, rest', k1, k2, k3, k4, hbx⟩ := blk_at (R := ARes × Hp) hb hjn
    have hbk : IsBlk [I d.blocks[j].kind, I d.blocks[j].n, a, q, s, t] d.blocks[j] := ⟨a, q, s, t, rfl, k1, k2, k3, k4⟩
    have other : ∀ y, y ≠ j → st2 par e (j + 1) y = st2 par e j y := by
      intro y hy
      unfold st2
      have : (y ≠ 0 ∧ ∃ z, par y = some z ∧ (z < e ∨ z = e ∧ y < j + 1)) ↔ (y ≠ 0 ∧ ∃ z, par y = some z ∧ (z < e ∨ z = e ∧ y < j)) := by
        refine and_congr_right fun _ => exists_congr fun z => and_congr_right fun _ => ?_
        omega
      simp only [this]
    have go : ∀ c : Bool, (c = true ↔ j ≠ 0 ∧ par j = some e) → Z (r13_Doms_p4147657 k N5 M5 N M (.ptr 0 0 0) (.sl 1 0 0 d.blocks.length) (.sl 2 0 0 d.blocks.length) e (.rv sb) j c h) := by
      intro c hc
      cases c with
      | true =>
        obtain ⟨hj0, hp⟩ := hc.1 rfl
        have hv : st2 par e (j + 1) j = (e : Int) := by
          unfold st2
          rw [if_pos ⟨hj0, e, hp, .inr ⟨rfl, by omega⟩⟩, dv, if_neg hj0, dlv_some hp]
        rw [r13_Doms_p4147657_eq, bsp_of rfl, sl_at hjn, stv_at dd.i (by simp [il_len]; exact hjn) rfl rfl, il_set (g := st2 par e (j + 1)) hjn (fun y => by
          by_cases e1 : y = j
          · rw [if_pos e1, e1, hv]
          · rw [if_neg e1, other y e1]), r13_Doms_p1036915_eq, wri_succ (by omega)]
        exact ih (j + 1) N _ (by omega) (by omega) ⟨get_set_ne (by omega) dd.c, get_set_eq dd.i, get_set_ne (by omega) dd.d⟩
      | false =>
        have hno : ¬ (j ≠ 0 ∧ par j = some e) := fun h => Bool.noConfusion (hc.2 h)
        rw [r13_Doms_p4147657_eq, bsp_not rfl, r13_Doms_p1036915_eq, wri_succ (by omega)]
        refine ih (j + 1) N h (by omega) (by omega) ⟨dd.c, ?_, dd.d⟩
        rw [dd.i, il_congr (g := st2 par e (j + 1)) fun y _ => by
          by_cases e1 : y = j
          · subst e1
            unfold st2
            have : (y ≠ 0 ∧ ∃ z, par y = some z ∧ (z < e ∨ z = e ∧ y < y)) ↔ (y ≠ 0 ∧ ∃ z, par y = some z ∧ (z < e ∨ z = e ∧ y < y + 1)) := by
              refine and_congr_right fun h0 => exists_congr fun z => and_congr_right fun hz => ?_
              constructor
              · intro h; omega
              · rintro (h | ⟨rfl, _⟩)
                · exact .inl h
                · exact absurd ⟨h0, hz⟩ hno
            simp only [this]
          · exact (other y e1).symm]
    rw [r13_Doms_l259228_eq, pad_ptr, ldv_at dd.c (x := .rv b) rfl, hb.len, bsp_of (decide_eq_true (by omega))]
    by_cases hje : j = e
    · rw [bsp_not (by rw [bne_eq_false_iff_eq]; omega)]
      refine go false ⟨fun h => (by cases h), fun ⟨h0, hp⟩ => ?_⟩
      have := (kd.k.up j e h0 hp).2.2.1
      rw [hje] at this
      omega
    · rw [bsp_of (by rw [bne_iff_ne]; omega), pad_ptr, ldv_at dd.c (x := .rv b) rfl, hbx, ldg6, callP_ret (by simp [toRV, depthA]) (Hole_spec hbk) (.inr rfl), asBool_b]
      by_cases h0 : d.blocks[j].kind = 0
      · rw [bsp_not (by simp [h0])]
        refine go false ⟨fun h => (by cases h), fun ⟨hj0, hp⟩ => ?_⟩
        exact absurd h0 ((post_kind hf hq hP (List.getElem?_eq_getElem hjn)).1 ((g.mem j).1 (kd.k.up j e hj0 hp).1))
      · have hjP : j ∈ P := (post_kind hf hq hP (List.getElem?_eq_getElem hjn)).2 h0
        obtain ⟨w, hw⟩ : ∃ w, seen[j]? = some w := ⟨_, List.getElem?_eq_getElem (by rw [hsl]; exact hjn)⟩
        have hsa := seen_abv kd hseen hw hjP
        rw [bsp_of (by simpa using h0), hsb.at hw]
        cases w with
        | true =>
          rw [bsp_not (by rfl)]
          refine go false ⟨fun h => (by cases h), fun ⟨hj0, hp⟩ => ?_⟩
          exact Bool.noConfusion (hsa.2 (.step hp (.refl e)))
        | false =>
          have ha := hsa.1 rfl
          have hle := cnt_le (par := par) (P := P) d.blocks.length e
          rw [bsp_of (by rfl), sl_at hjn, ldi_at dd.d (n := (cnt par P d.blocks.length j : Nat)) (by rw [il_at hjn, hD]), sl_at hel, ldi_at dd.d (n := (cnt par P d.blocks.length e : Nat)) (by rw [il_at hel, hD]), wri_succ (by omega)]
          refine go _ ?_
          rw [beq_iff_eq]
          have hce := cnt_exact kd g (b := j) (d := e) hjP ha hje
          constructor
          · intro h
            refine ⟨?_, hce.1 (by omega)⟩
            rintro rfl
            exact hje (kd.k.nz ha rfl).symm
          · rintro ⟨_, hp⟩
            have := hce.2 hp
            omega
theorem de_outer (hcd : IsCd [p, r, v, b] d) (hf : formOk d.blocks = true) (hq : FlowOk d.blocks) (hP : IsPost d.blocks P) (kd : Done (grOf hf hq hP) par) (k M : Nat) (hk : 1000000000 < k) (Z : Option (ARes × Hp) → Prop)
    (outer : ∀ h, DD h d.blocks.length [.rv p, .rv r, .rv v, .rv b] (st2 par d.blocks.length 0) (st1 par P d.blocks.length 0) → Z (r13_Doms_p127 k (.sl 1 0 0 d.blocks.length) h)) :
    ∀ (m e N : Nat) (h : Hp), e + m = d.blocks.length → m < N → DD h d.blocks.length [.rv p, .rv r, .rv v, .rv b] (st2 par e 0) (st1 par P d.blocks.length 0) → Z (r13_Doms_l1012 k N M (.ptr 0 0 0) (.sl 1 0 0 d.blocks.length) (.sl 2 0 0 d.blocks.length) e h) := by
  have hsh : d.blocks.length ≤ 4096 := by
    simp only [formOk, Bool.and_eq_true, decide_eq_true_eq] at hf
    exact hf.1.2
  have hcd' := hcd
  have g := grP hf hq hP
  obtain ⟨p, r, v, b, ee, _, _, _, hb⟩ := hcd
  cases ee
  intro m
  induction m with
  | zero =>
    intro e N h hj hN dd
    obtain ⟨N, rfl⟩ : ∃ q, N = q + 1 := ⟨N - 1, by omega⟩
    obtain rfl : e = d.blocks.length := by omega
    rw [r13_Doms_l1012_eq, pad_ptr, ldv_at dd.c (x := .rv b) rfl, hb.len, bsp_not (decide_eq_false (by omega))]
    exact outer h dd
  | succ m ih =>
    intro e N h hj hN dd
    obtain ⟨N, rfl⟩ : ∃ q, N = q + 1 := ⟨N - 1, by omega⟩
    have hen : e < d.blocks.length := by omega
    obtain ⟨a, q, s, t, rest', k1, k2, k3, k4, hbx⟩ := blk_at (R := ARes × Hp) hb hen
    have hbk : IsBlk [I d.blocks[e].kind, I d.blocks[e].n, a, q, s, t] d.blocks[e] := ⟨a, q, s, t, rfl, k1, k2, k3, k4⟩
    have next : ∀ h, DD h d.blocks.length [.rv p, .rv r, .rv v, .rv b] (st2 par (e + 1) 0) (st1 par P d.blocks.length 0) → Z (r13_Doms_p4051 k N M (.ptr 0 0 0) (.sl 1 0 0 d.blocks.length) (.sl 2 0 0 d.blocks.length) e h) := by
      intro h dd
      rw [r13_Doms_p4051_eq, wri_succ (by omega)]
      exact ih (e + 1) N h (by omega) (by omega) dd
    rw [r13_Doms_l1012_eq, pad_ptr, ldv_at dd.c (x := .rv b) rfl, hb.len, bsp_of (decide_eq_true (by omega)), pad_ptr, ldv_at dd.c (x := .rv b) rfl, hbx, ldg6, callP_ret (by simp [toRV, depthA]) (Hole_spec hbk) (.inr rfl), asBool_b]
    by_cases h0 : d.blocks[e].kind = 0
    · rw [bsp_of (by simpa using h0)]
      refine next h ⟨dd.c, ?_, dd.d⟩
      rw [dd.i, il_congr (g := st2 par (e + 1) 0) fun y _ => by
        unfold st2
        have : (y ≠ 0 ∧ ∃ z, par y = some z ∧ (z < e ∨ z = e ∧ y < 0)) ↔ (y ≠ 0 ∧ ∃ z, par y = some z ∧ (z < e + 1 ∨ z = e + 1 ∧ y < 0)) := by
          refine and_congr_right fun hy0 => exists_congr fun z => and_congr_right fun hz => ?_
          have : z ≠ e := by
            rintro rfl
            exact (post_kind hf hq hP (List.getElem?_eq_getElem hen)).1 ((g.mem z).1 (kd.k.up y z hy0 hz).2.1) h0
          omega
        simp only [this]]
    · have heP : e ∈ P := (post_kind hf hq hP (List.getElem?_eq_getElem hen)).2 h0
      obtain ⟨sb, seen, er, hsb, hsl, hseen⟩ := Reached_spec hcd' hf (e : Int)
      rw [bsp_not (by simpa using h0), ldg_at (n := 4) dd.c rfl, callP_ret (by simp [toRV, depthA]) er (.inl rfl), show ((0 : Int)) = ((0 : Nat) : Int) from rfl]
      exact de_inner hcd' hf hq hP kd k N M _ e hen heP hsb hsl hseen Z next d.blocks.length 0 k h (by omega) (by omega) dd
end
theorem refDoms_spec {cs : List RV} {d : Cd} (hd : IsCd cs d) (hf : formOk d.blocks = true) (hq : FlowOk d.blocks) {P : List Nat} (hP : IsPost d.blocks P) {par : Par} (kd : Done (grOf hf hq hP) par) : ∃ x, F_r13_Doms [.agg cs] = some (.ret x) ∧ IsInts x (dvs par d.blocks.length) := by
  have hl : 0 < d.blocks.length ∧ d.blocks.length ≤ 4096 := by
    simp only [formOk, Bool.and_eq_true, decide_eq_true_eq] at hf
    exact hf.1
  have hcd := hd
  have g := grP hf hq hP
  obtain ⟨p, r, v, b, rfl, _, _, _, hb⟩ := hd
  have hz : ∀ n, zrep [AV.rv (.int .i64 0)] n = (il (fun _ => 0) n).map ai := fun n => by
    apply List.ext_getElem?
    intro i
    by_cases hi : i < n
    · rw [il_at hi]; simp [zrep, hi]
    · rw [List.getElem?_eq_none (by simp [zrep]; omega), List.getElem?_eq_none (by simp [il_len]; omega)]
  have hend : il (st2 par d.blocks.length 0) d.blocks.length = dvs par d.blocks.length := by
    apply List.ext_getElem?
    intro x
    by_cases hx : x < d.blocks.length
    · rw [dvs_at hx]
      have : (il (st2 par d.blocks.length 0) d.blocks.length)[x]? = some (st2 par d.blocks.length 0 x) := by simp [il, hx]
      rw [this]
      congr 1
      unfold st2
      split
      · rfl
      · rename_i hno
        by_cases h0 : x = 0
        · simp [dv, h0]
        · rw [dv, if_neg h0]
          cases hp : par x with
          | none => simp [dlv, hp]
          | some z =>
            have := g.lt z ((g.mem z).1 (kd.k.up x z h0 hp).2.1)
            exact absurd ⟨h0, z, hp, .inl this⟩ hno
    · rw [List.getElem?_eq_none (by rw [il_len]; omega), List.getElem?_eq_none (by rw [dvs_len]; omega)]
  have dd0 : DD ([⟨0, 1, [.rv p, .rv r, .rv v, .rv b]⟩] ++ [(⟨0, 1, (il (fun _ => 0) d.blocks.length).map ai⟩ : Ob)] ++ [⟨0, 1, (il (fun _ => 0) d.blocks.length).map ai⟩]) d.blocks.length [.rv p, .rv r, .rv v, .rv b] (fun x => if x < 0 then -1 else 0) (fun _ => 0) :=
    ⟨rfl, rfl, rfl⟩
  have main : ∃ h', r13_Doms_l244 big big 3 (.ptr 0 0 0) (.sl 1 0 0 d.blocks.length) (.sl 2 0 0 d.blocks.length) ((0 : Nat) : Int) ([⟨0, 1, [.rv p, .rv r, .rv v, .rv b]⟩] ++ [(⟨0, 1, (il (fun _ => 0) d.blocks.length).map ai⟩ : Ob)] ++ [⟨0, 1, (il (fun _ => 0) d.blocks.length).map ai⟩]) = some (.ret (.sl 1 0 0 d.blocks.length), h') ∧ h'[1]? = some ⟨0, 1, (dvs par d.blocks.length).map ai⟩ := by
    refine dd_fill hl.2 big 3 (.ptr 0 0 0) (fun z => ∃ h', z = some (.ret (.sl 1 0 0 d.blocks.length), h') ∧ h'[1]? = some ⟨0, 1, (dvs par d.blocks.length).map ai⟩) [.rv p, .rv r, .rv v, .rv b] (fun h dd => ?_) d.blocks.length 0 big _ (by omega) (by rw [big_val]; omega) dd0
    rw [r13_Doms_p31_eq, show ((0 : Int)) = ((0 : Nat) : Int) from rfl]
    refine dd_outer hcd hf hq hP kd big _ (by rw [big_val]; omega) (fun z => ∃ h', z = some (.ret (.sl 1 0 0 d.blocks.length), h') ∧ h'[1]? = some ⟨0, 1, (dvs par d.blocks.length).map ai⟩) (fun _ => -1) (fun h dd => ?_) d.blocks.length 0 big h (by omega) (by rw [big_val]; omega) ⟨dd.c, dd.i, ?_⟩
    · rw [r13_Doms_p63_eq, show ((0 : Int)) = ((0 : Nat) : Int) from rfl]
      refine de_outer hcd hf hq hP kd big _ (by rw [big_val]; omega) (fun z => ∃ h', z = some (.ret (.sl 1 0 0 d.blocks.length), h') ∧ h'[1]? = some ⟨0, 1, (dvs par d.blocks.length).map ai⟩) (fun h dd => ?_) d.blocks.length 0 big h (by omega) (by rw [big_val]; omega) ⟨dd.c, ?_, dd.d⟩
      · rw [r13_Doms_p127_eq]
        exact ⟨h, rfl, by rw [dd.i, hend]⟩
      · rw [dd.i, il_congr (g := st2 par 0 0) fun x _ => by
          unfold st2
          rw [if_neg]
          rintro ⟨_, z, _, h⟩
          omega]
    · rw [dd.d, il_congr (g := st1 par P 0 0) fun x _ => by
        unfold st1
        rw [if_neg (by omega)]
        rfl]
  obtain ⟨h', e, ho⟩ := main
  have ht := toRV_ints ho
  rw [dvs_len] at ht
  have hI := IsInts.mk (dvs par d.blocks.length) (by rw [dvs_len]; omega)
  rw [dvs_len] at hI
  refine ⟨_, ?_, hI⟩
  unfold F_r13_Doms
  rw [List.map_cons, List.map_nil, r13_Doms_eq, box_agg, List.nil_append, List.length_nil, show List.map AV.rv [p, r, v, b] = [.rv p, .rv r, .rv v, .rv b] from rfl, pad_ptr, ldv_at (by rfl) (x := .rv b) (by rfl), hb.len, mks_one (by omega) (by omega), pad_ptr, ldv_at (by rfl) (x := .rv b) (by rfl), hb.len, mks_one (by omega) (by omega), hz]
  have l1 : ([⟨0, 1, [.rv p, .rv r, .rv v, .rv b]⟩] : Hp).length = 1 := rfl
  have l2 : ([(⟨0, 1, [.rv p, .rv r, .rv v, .rv b]⟩ : Ob)] ++ [(⟨0, 1, (il (fun _ => 0) d.blocks.length).map ai⟩ : Ob)]).length = 2 := rfl
  have l3 : ([(⟨0, 1, [.rv p, .rv r, .rv v, .rv b]⟩ : Ob)] ++ [(⟨0, 1, (il (fun _ => 0) d.blocks.length).map ai⟩ : Ob)] ++ [(⟨0, 1, (il (fun _ => 0) d.blocks.length).map ai⟩ : Ob)]).length = 3 := rfl
  rw [l1, l2, l3]
  refine (congrArg pureR e).trans ?_
  simp only [pureR, ht]
  rfl
end Go.Proofs.Ytknphnmhjmejaaa
/-  What the document asks of a list; which block stands over which. No conditions. -/
namespace Go.Proofs.Ytknphnmhjmejaaa
set_option linter.unusedVariables false
theorem In_loop {x : RV} {xs : List Int} (hx : IsInts x xs) (v : Int) (k M : Nat) (h : Hp) : ∀ (m i N : Nat), i + m = xs.length → m < N → r0_In_l52 k N M (.rv x) v i h = some (.ret (ab (decide (v ∈ xs.drop i))), h) := by
  have hs := hx.short
  intro m
  induction m with
  | zero =>
    intro i N hi hN
    obtain ⟨N, rfl⟩ : ∃ q, N = q + 1 := ⟨N - 1, by omega⟩
    rw [r0_In_l52_eq, hx.len, bsp_not (decide_eq_false (by omega)), r0_In_p7_eq, List.drop_eq_nil_of_le (by omega)]
    simp
  | succ m ih =>
    intro i N hi hN
    obtain ⟨N, rfl⟩ : ∃ q, N = q + 1 := ⟨N - 1, by omega⟩
    have hil : i < xs.length := by omega
    rw [r0_In_l52_eq, hx.len, bsp_of (decide_eq_true (by omega)), hx.at hil, List.drop_eq_getElem_cons hil]
    by_cases e : xs[i] = v
    · rw [bsp_of (by simpa using e)]
      simp [e]
    · rw [bsp_not (by simpa using e), wri_succ (by omega), ih (i + 1) N (by omega) (by omega)]
      have h3 : (v ∈ xs[i] :: xs.drop (i + 1)) ↔ v ∈ xs.drop (i + 1) := by
        rw [List.mem_cons]
        exact ⟨fun h => h.resolve_left fun h => e h.symm, .inr⟩
      rw [decide_eq_decide.2 h3]
theorem In_spec {x : RV} {xs : List Int} (hx : IsInts x xs) (v : Int) : F_r0_In [x, I v] = some (.ret (.bool (decide (v ∈ xs)))) := by
  have hs := hx.short
  unfold F_r0_In
  rw [List.map_cons, List.map_cons, List.map_nil, r0_In_eq, show ((0 : Int)) = ((0 : Nat) : Int) from rfl, In_loop hx v big _ _ xs.length 0 big (by omega) (by rw [big_val]; omega), List.drop_zero]
  simp [pureR, toRV, depthA]
section
variable {G : Gr} {par : Par} {P : List Nat} {n : Nat} {x : RV}
open Classical in
theorem Dominates_loop (kd : Done G par) (g : GrP G P n) (hx : IsInts x (dvs par n)) (d k M : Nat) (h : Hp) : ∀ (m y N : Nat), G.N y → P.length - G.num y ≤ m → m + 1 < N → r13_Dominates_l24 k N M (.rv x) d y h = some (.ret (ab (decide (Anc par y d))), h) := by
  intro m
  induction m with
  | zero =>
    intro y N hy hm
    have h1 := g.le0 hy
    have h2 : G.num 0 < P.length := by rw [g.num]; exact List.idxOf_lt_length_iff.2 ((g.mem 0).1 G.n0)
    omega
  | succ m ih =>
    intro y N hy hm hN
    obtain ⟨N, rfl⟩ : ∃ q, N = q + 1 := ⟨N - 1, by omega⟩
    have hyn := g.lt y ((g.mem y).1 hy)
    have hyl : y < (dvs par n).length := by rw [dvs_len]; exact hyn
    rw [r13_Dominates_l24_eq, bsp_of (decide_eq_true (by omega))]
    by_cases e : y = d
    · subst e
      have : Anc par y y := .refl y
      rw [bsp_of (by simp)]
      simp [this]
    · rw [bsp_not (by rw [beq_eq_false_iff_ne]; omega), hx.at hyl, dvs_get]
      rcases kd.dv_step hy with ⟨rfl, e2⟩ | ⟨h0, y', hp, e2, hy', hlt⟩
      · obtain ⟨N, rfl⟩ : ∃ q, N = q + 1 := ⟨N - 1, by omega⟩
        have : ¬ Anc par 0 d := fun h => e (kd.anc0.1 h).symm
        rw [e2, r13_Dominates_l24_eq, bsp_not (by rfl), r13_Dominates_p7_eq]
        simp [this]
      · rw [e2, ih y' N hy' (by omega) (by omega)]
        have : Anc par y d ↔ Anc par y' d := by rw [anc_step hp]; simp [e]
        simp [this]
open Classical in
theorem Dominates_spec (kd : Done G par) (g : GrP G P n) (hn : n ≤ 4096) (hP : P.length ≤ n) (hx : IsInts x (dvs par n)) (d : Nat) {y : Nat} (hy : G.N y) : F_r13_Dominates [x, I (d : Nat), I (y : Nat)] = some (.ret (.bool (decide (Anc par y d)))) := by
  unfold F_r13_Dominates
  rw [List.map_cons, List.map_cons, List.map_cons, List.map_nil, r13_Dominates_eq, Dominates_loop kd g hx d big _ _ P.length y big hy (by omega) (by rw [big_val]; omega)]
  simp [pureR, toRV, depthA]
end
end Go.Proofs.Ytknphnmhjmejaaa
/-  The document's body of a loop. No conditions. -/
namespace Go.Proofs.Ytknphnmhjmejaaa
set_option linter.unusedVariables false
structure RB (h : Hp) (n : Nat) (cells : List AV) (inn : List Bool) (lv : AV) (S : List Nat) : Prop where
  c : h[0]? = some ⟨0, 1, cells⟩
  s : h[1]? = some ⟨0, 1, inn.map ab⟩
  len : inn.length = n
  mem : ∀ y : Nat, inn[y]? = some true ↔ y ∈ S
  l : IntsJ h lv (S.tail.map Int.ofNat)
  ow : ∀ q, own lv = some q → 2 ≤ q
  nd : S.Nodup
  lt : ∀ y ∈ S, y < n
  ne : S ≠ []
theorem RB.push {h : Hp} {n : Nat} {cells : List AV} {inn : List Bool} {lv : AV} {S : List Nat} (k : RB h n cells inn lv S) (hn : n ≤ 4096) {p : Nat} (hp : p < n) (hm : p ∉ S) :
    ∃ w h3, (∀ {R : Type} (K : AV → Hp → Option R), (bsl 1 1 [.rv (.int .i64 0)] [(some (0, 1), ai (p : Nat))] (h.set 1 ⟨0, 1, (inn.map ab).set p (ab true)⟩) fun u h2 => apn 1 8 h2 lv u fun w h3 => K w h3) = K w h3) ∧ RB h3 n cells (inn.set p true) w (S ++ [p]) := by
  have hSl : S.length ≤ n := nodup_le _ _ k.nd k.lt
  have h1l := get_lt k.s
  have kj : IntsJ (h.set 1 ⟨0, 1, (inn.map ab).set p (ab true)⟩) lv (S.tail.map Int.ofNat) := k.l.mono fun q hq => List.getElem?_set_ne (by have := k.ow q hq; omega)
  obtain ⟨w, h3, hK, kw, hlt, hkeep, how⟩ := kj.push (by simp; omega) (p : Int)
  have hne0 : own lv ≠ some 0 := fun e => by have := k.ow 0 e; omega
  have hne1 : own lv ≠ some 1 := fun e => by have := k.ow 1 e; omega
  have hl : (h.set 1 ⟨0, 1, (inn.map ab).set p (ab true)⟩).length = h.length := by simp
  have htail : (S ++ [p]).tail = S.tail ++ [p] := by
    obtain ⟨a, t, e⟩ := List.exists_cons_of_ne_nil k.ne
    rw [e]
    rfl
  refine ⟨w, h3, hK, ⟨?_, ?_, by rw [List.length_set]; exact k.len, fun y => ?_, by rw [htail, List.map_append]; exact kw, fun q hq => ?_, nodup_snoc k.nd hm, fun y hy => ?_, by simp⟩⟩
  · rw [hkeep 0 (by omega) hne0]; exact get_set_ne (by omega) k.c
  · rw [hkeep 1 (by omega) hne1, List.map_set]; exact get_set_eq k.s
  · rw [List.getElem?_set, List.mem_append, ← k.mem y]
    by_cases e : p = y
    · subst e
      simp [k.len, hp]
    · have : ¬ y = p := fun h => e h.symm
      rw [if_neg e]
      simp [this]
  · rcases how with e | ⟨o, e, ho⟩
    · exact k.ow q (by rw [← e]; exact hq)
    · rw [hq] at e; cases e; omega
  · rcases List.mem_append.1 hy with h | h
    · exact k.lt y h
    · have : y = p := by simpa using h
      omega
section
variable {par : Par} {P : List Nat} {p r v b : RV} {d : Cd} {hd : Nat} {x1 : RV}
theorem tail_get {S : List Nat} {i : Nat} : S.tail[i]? = S[i + 1]? := by
  cases S <;> simp
theorem rb_list {inn : List Bool} {n : Nat} (hl : inn.length = n) (hn : n ≤ 4096) (k M : Nat) : ∀ (m i N : Nat) (h : Hp) (w : AV), i + m = n → m < N → h[1]? = some ⟨0, 1, inn.map ab⟩ → (∀ q, own w = some q → 2 ≤ q) → IntsJ h w (((List.range i).filter fun y => inn.getD y false).map Int.ofNat) →
    ∃ h' w', r13_body_l4084 k N M (.sl 1 0 0 n) w i h = some (.ret w', h') ∧ IntsJ h' w' (((List.range n).filter fun y => inn.getD y false).map Int.ofNat) := by
  intro m
  induction m with
  | zero =>
    intro i N h w hi hN hs ho kj
    obtain ⟨N, rfl⟩ : ∃ q, N = q + 1 := ⟨N - 1, by omega⟩
    obtain rfl : i = n := by omega
    rw [r13_body_l4084_eq, sl_len, bsp_not (decide_eq_false (by omega)), r13_body_p511_eq]
    exact ⟨h, w, rfl, kj⟩
  | succ m ih =>
    intro i N h w hi hN hs ho kj
    obtain ⟨N, rfl⟩ : ∃ q, N = q + 1 := ⟨N - 1, by omega⟩
    have hin : i < n := by omega
    obtain ⟨c, hc⟩ : ∃ c, inn[i]? = some c := ⟨_, List.getElem?_eq_getElem (by rw [hl]; exact hin)⟩
    have hgd : inn.getD i false = c := by rw [List.getD_eq_getElem?_getD, hc]; rfl
    rw [r13_body_l4084_eq, sl_len, bsp_of (decide_eq_true (by omega)), sl_at hin, ldb_at (b := c) hs (by simp [hc])]
    have hfl : ((List.range i).filter fun y => inn.getD y false).length ≤ i := by
      have := List.length_filter_le (fun y => inn.getD y false) (List.range i)
      simpa using this
    cases c with
    | true =>
      obtain ⟨w2, h3, hK, kw, hlt, hkeep, how⟩ := kj.push (by simp only [List.length_map]; omega) (i : Int)
      rw [bsp_of rfl, hK, r13_body_p16339_eq, wri_succ (by omega)]
      have hs1 := get_lt hs
      refine ih (i + 1) N h3 w2 (by omega) (by omega) (by rw [hkeep 1 hs1 fun e => by have := ho 1 e; omega]; exact hs) (fun q hq => ?_) ?_
      · rcases how with e | ⟨o, e, hlo⟩
        · exact ho q (by rw [← e]; exact hq)
        · rw [hq] at e; cases e; omega
      · rw [List.range_succ, List.filter_append, List.map_append]
        simp only [List.filter_cons, hgd, if_true, List.filter_nil]
        exact kw
    | false =>
      rw [bsp_not rfl, r13_body_p16339_eq, wri_succ (by omega)]
      refine ih (i + 1) N h w (by omega) (by omega) hs ho ?_
      rw [List.range_succ, List.filter_append, List.map_append]
      simp only [List.filter_cons, hgd, List.filter_nil]
      simpa using kj
/-- What the walk tells at its end. -/
def RBEnd (bs : List Blk) (par : Par) (hd : Nat) (z : Option (ARes × Hp)) : Prop :=
  ∃ h' w' body, z = some (.ret w', h') ∧ IntsJ h' w' body ∧ body.length ≤ 4096 ∧ body.Pairwise (· < ·) ∧ ∀ y : Int, y ∈ body ↔ ∃ z : Nat, y = z ∧ InB bs par hd z
theorem rb_end (hsh : d.blocks.length ≤ 4096) (k : Nat) (hk : 1000000000 < k) {h : Hp} {inn : List Bool} {lv : AV} {S : List Nat} {t : Nat} (rb : RB h d.blocks.length [.rv p, .rv r, .rv v, .rv b] inn lv S) (b2 : B2 d.blocks par hd t 0 S) (ht : S.length ≤ t) :
    RBEnd d.blocks par hd (r13_body_p127 k (.sl 1 0 0 d.blocks.length) h) := by
  rw [r13_body_p127_eq, show ((0 : Int)) = ((0 : Nat) : Int) from rfl]
  obtain ⟨h', w', e, kj⟩ := rb_list rb.len hsh k h.length d.blocks.length 0 k h (.rv .nils) (by omega) (by omega) rb.s (by simp [own]) .nil
  refine ⟨h', w', _, e, kj, ?_, ?_, fun y => ?_⟩
  · have := List.length_filter_le (fun y => inn.getD y false) (List.range d.blocks.length)
    rw [List.length_range] at this
    rw [List.length_map]
    omega
  · rw [List.pairwise_map]
    refine List.Pairwise.filter _ (List.pairwise_lt_range.imp fun h => ?_)
    exact Int.ofNat_lt.2 h
  · rw [List.mem_map]
    constructor
    · rintro ⟨z, hz, rfl⟩
      obtain ⟨h1, h2⟩ := List.mem_filter.1 hz
      refine ⟨z, rfl, (b2.all ht z).1 ((rb.mem z).1 ?_)⟩
      rw [List.getD_eq_getElem?_getD] at h2
      cases hc : inn[z]? with
      | none => rw [hc] at h2; cases h2
      | some c => rw [hc] at h2; exact congrArg some h2
    · rintro ⟨z, rfl, hz⟩
      have hS := (b2.all ht z).2 hz
      refine ⟨z, List.mem_filter.2 ⟨List.mem_range.2 (rb.lt z hS), ?_⟩, rfl⟩
      rw [List.getD_eq_getElem?_getD, (rb.mem z).2 hS]
      rfl
theorem rb_preds (hb : IsRows 6 IsBlk b d.blocks) (hsh : d.blocks.length ≤ 4096) (hpn : ∀ (x : Nat) (q : Blk), d.blocks[x]? = some q → ∀ z ∈ q.preds, ∃ m : Nat, z = m ∧ m < d.blocks.length) (k N5 M5 M i x : Nat) (hxl : x < d.blocks.length) {pv : RV} (hpv : IsInts pv d.blocks[x].preds) (Z : Option (ARes × Hp) → Prop)
    (outer : ∀ h inn lv S, RB h d.blocks.length [.rv p, .rv r, .rv v, .rv b] inn lv S → S[i + 1]? = some x → B2 d.blocks par hd (i + 1) (prd d.blocks x).length S → Z (r13_body_p4051 k N5 M5 (.ptr 0 0 0) (.sl 1 0 0 d.blocks.length) lv i h)) :
    ∀ (m j N : Nat) (h : Hp) (inn : List Bool) (lv : AV) (S : List Nat), j + m = d.blocks[x].preds.length → m < N → RB h d.blocks.length [.rv p, .rv r, .rv v, .rv b] inn lv S → S[i + 1]? = some x → B2 d.blocks par hd (i + 1) j S →
      Z (r13_body_l129612 k N5 M5 N M (.ptr 0 0 0) (.sl 1 0 0 d.blocks.length) lv i (.rv pv) j h) := by
  have hs := hpv.short
  intro m
  induction m with
  | zero =>
    intro j N h inn lv S hj hN rb hx b2
    obtain ⟨N, rfl⟩ : ∃ q, N = q + 1 := ⟨N - 1, by omega⟩
    rw [r13_body_l129612_eq, hpv.len, bsp_not (decide_eq_false (by omega))]
    refine outer h inn lv S rb hx ?_
    rw [prd_at hxl, List.length_map, show d.blocks[x].preds.length = j by omega]
    exact b2
  | succ m ih =>
    intro j N h inn lv S hj hN rb hx b2
    obtain ⟨N, rfl⟩ : ∃ q, N = q + 1 := ⟨N - 1, by omega⟩
    have hjl : j < d.blocks[x].preds.length := by omega
    obtain ⟨y, hy, hyl⟩ := hpn x _ (List.getElem?_eq_getElem hxl) _ (List.getElem_mem hjl)
    have hpy : (prd d.blocks x)[j]? = some y := by rw [prd_at hxl, List.getElem?_map, List.getElem?_eq_getElem hjl, hy]; simp
    have hstep := b2.push rb.nd (by omega) hx hpy
    obtain ⟨c, hc⟩ : ∃ c, inn[y]? = some c := ⟨_, List.getElem?_eq_getElem (by rw [rb.len]; exact hyl)⟩
    have htl := (List.getElem?_eq_some_iff.1 hx).1
    rw [r13_body_l129612_eq, hpv.len, bsp_of (decide_eq_true (by omega)), hpv.at hjl, hy, sl_at hyl, ldb_at (b := c) rb.s (by simp [hc])]
    cases c with
    | true =>
      have hm := (rb.mem y).1 hc
      rw [if_pos hm] at hstep
      rw [bsp_not (by rfl), r13_body_p518451_eq, wri_succ (by omega)]
      exact ih (j + 1) N h inn lv S (by omega) (by omega) rb hx hstep
    | false =>
      have hm : y ∉ S := fun h => by
        have := (rb.mem y).2 h
        rw [hc] at this
        cases this
      rw [if_neg hm] at hstep
      obtain ⟨w, h3, hK, rb'⟩ := rb.push hsh hyl hm
      rw [bsp_of (by rfl), hpv.at hjl, hy, sl_at hyl, stv_at rb.s (by simp [rb.len]; exact hyl) rfl rfl, hpv.at hjl, hy, hK, r13_body_p518451_eq, wri_succ (by omega)]
      exact ih (j + 1) N h3 _ w _ (by omega) (by omega) rb' (by rw [List.getElem?_append_left htl]; exact hx) hstep
theorem rb_outer (hb : IsRows 6 IsBlk b d.blocks) (hsh : d.blocks.length ≤ 4096) (hpn : ∀ (x : Nat) (q : Blk), d.blocks[x]? = some q → ∀ z ∈ q.preds, ∃ m : Nat, z = m ∧ m < d.blocks.length) (k M : Nat) (hk : 1000000000 < k) :
    ∀ (m i N : Nat) (h : Hp) (inn : List Bool) (lv : AV) (S : List Nat), d.blocks.length - i ≤ m → m < N → RB h d.blocks.length [.rv p, .rv r, .rv v, .rv b] inn lv S → B2 d.blocks par hd (i + 1) 0 S →
      RBEnd d.blocks par hd (r13_body_l1012 k N M (.ptr 0 0 0) (.sl 1 0 0 d.blocks.length) lv i h) := by
  have fin : ∀ (i N : Nat) (h : Hp) (inn : List Bool) (lv : AV) (S : List Nat), 0 < N → S.length ≤ i + 1 → RB h d.blocks.length [.rv p, .rv r, .rv v, .rv b] inn lv S → B2 d.blocks par hd (i + 1) 0 S →
      RBEnd d.blocks par hd (r13_body_l1012 k N M (.ptr 0 0 0) (.sl 1 0 0 d.blocks.length) lv i h) := by
    intro i N h inn lv S hN ht rb b2
    obtain ⟨N, rfl⟩ : ∃ q, N = q + 1 := ⟨N - 1, by omega⟩
    rw [r13_body_l1012_eq, rb.l.lna, bsp_not (decide_eq_false (by simp only [List.length_map, List.length_tail]; omega))]
    exact rb_end hsh k hk rb b2 ht
  intro m
  induction m with
  | zero =>
    intro i N h inn lv S hm hN rb b2
    have hSl : S.length ≤ d.blocks.length := nodup_le _ _ rb.nd rb.lt
    exact fin i N h inn lv S (by omega) (by omega) rb b2
  | succ m ih =>
    intro i N h inn lv S hm hN rb b2
    have hSl : S.length ≤ d.blocks.length := nodup_le _ _ rb.nd rb.lt
    by_cases hil : i + 1 < S.length
    · obtain ⟨N, rfl⟩ : ∃ q, N = q + 1 := ⟨N - 1, by omega⟩
      have hxl : S[i + 1] < d.blocks.length := rb.lt _ (List.getElem_mem hil)
      obtain ⟨a, q, s, t', rest', k1, k2, k3, k4, hbx⟩ := blk_at (R := ARes × Hp) hb hxl
      have hat : i < (S.tail.map Int.ofNat).length := by simp only [List.length_map, List.length_tail]; omega
      have hget : (S.tail.map Int.ofNat)[i]'hat = ((S[i + 1] : Nat) : Int) := by simp
      have hs2 := k2.short
      rw [r13_body_l1012_eq, rb.l.lna, bsp_of (decide_eq_true (by simp only [List.length_map, List.length_tail]; omega)), pad_ptr, ldv_at rb.c (x := .rv b) rfl, rb.l.at hat, hget, hbx, pad_rop3, ldv_rop, show ((0 : Int)) = ((0 : Nat) : Int) from rfl]
      refine rb_preds hb hsh hpn k N M _ i S[i + 1] hxl k2 (fun z => RBEnd d.blocks par hd z) (fun h inn lv S' rb hx b2 => ?_) d.blocks[S[i + 1]].preds.length 0 k h inn lv S (by omega) (by omega) rb (List.getElem?_eq_getElem hil) b2
      rw [r13_body_p4051_eq, wri_succ (by omega)]
      exact ih (i + 1) N h inn lv S' (by omega) (by omega) rb (b2.next hx)
    · exact fin i N h inn lv S (by omega) (by omega) rb b2
open Classical in
theorem rb_src {G : Gr} (kd : Done G par) (g : GrP G P d.blocks.length) (hple : P.length ≤ d.blocks.length) (hx1 : IsInts x1 (dvs par d.blocks.length)) (hb : IsRows 6 IsBlk b d.blocks) (hsh : d.blocks.length ≤ 4096) (hhl : hd < d.blocks.length) (hpP : ∀ z ∈ prd d.blocks hd, z ∈ P) (hpn : ∀ (x : Nat) (q : Blk), d.blocks[x]? = some q → ∀ z ∈ q.preds, ∃ m : Nat, z = m ∧ m < d.blocks.length) (k M : Nat) (hk : 1000000000 < k) :
    ∀ (m j N : Nat) (h : Hp) (inn : List Bool) (lv : AV) (S : List Nat), j + m = d.blocks[hd].preds.length → m < N → RB h d.blocks.length [.rv p, .rv r, .rv v, .rv b] inn lv S → B1 d.blocks par hd j S →
      RBEnd d.blocks par hd (r13_body_l500 k N M (.rv x1) hd (.ptr 0 0 0) (.sl 1 0 0 d.blocks.length) lv j h) := by
  obtain ⟨a, q, s, t', rest', k1, k2, k3, k4, hbx⟩ := blk_at (R := ARes × Hp) hb hhl
  have hs := k2.short
  intro m
  induction m with
  | zero =>
    intro j N h inn lv S hj hN rb b1
    obtain ⟨N, rfl⟩ : ∃ q, N = q + 1 := ⟨N - 1, by omega⟩
    rw [r13_body_l500_eq, pad_ptr, ldv_at rb.c (x := .rv b) rfl, hbx, pad_rop3, ldv_rop, k2.len, bsp_not (decide_eq_false (by omega)), r13_body_p63_eq, show ((0 : Int)) = ((0 : Nat) : Int) from rfl]
    refine rb_outer hb hsh hpn k _ hk d.blocks.length 0 k h inn lv S (by omega) (by omega) rb ⟨b1.first, b1.inb, fun q hq ha => ?_, fun t' x h1 h2 => by omega, fun x _ q p' hq => by omega⟩
    obtain ⟨q', hq', e⟩ := List.getElem_of_mem hq
    refine b1.done q' q ?_ (by rw [List.getElem?_eq_getElem hq', e]) ha
    have : (prd d.blocks hd).length = d.blocks[hd].preds.length := by rw [prd_at hhl, List.length_map]
    omega
  | succ m ih =>
    intro j N h inn lv S hj hN rb b1
    obtain ⟨N, rfl⟩ : ∃ q, N = q + 1 := ⟨N - 1, by omega⟩
    have hjl : j < d.blocks[hd].preds.length := by omega
    obtain ⟨y, hy, hyl⟩ := hpn hd _ (List.getElem?_eq_getElem hhl) _ (List.getElem_mem hjl)
    have hpy : (prd d.blocks hd)[j]? = some y := by rw [prd_at hhl, List.getElem?_map, List.getElem?_eq_getElem hjl, hy]; simp
    have hyP := hpP y (List.mem_of_getElem? hpy)
    have hD := Dominates_spec kd g hsh hple hx1 hd (y := y) ((g.mem y).2 hyP)
    obtain ⟨c, hc⟩ : ∃ c, inn[y]? = some c := ⟨_, List.getElem?_eq_getElem (by rw [rb.len]; exact hyl)⟩
    rw [r13_body_l500_eq, pad_ptr, ldv_at rb.c (x := .rv b) rfl, hbx, pad_rop3, ldv_rop, k2.len, bsp_of (decide_eq_true (by omega)), pad_ptr, ldv_at rb.c (x := .rv b) rfl, hbx, pad_rop3, ldv_rop, k2.at hjl, hy, callP_ret (by simp [toRV, depthA]) hD (.inr rfl), asBool_b]
    by_cases ha : Anc par y hd
    · have hstep := b1.push hpy ha
      rw [bsp_of (decide_eq_true ha), sl_at hyl, ldb_at (b := c) rb.s (by simp [hc])]
      cases c with
      | true =>
        have hm := (rb.mem y).1 hc
        rw [if_pos hm] at hstep
        rw [r13_body_p16019_eq, bsp_not (by rfl), r13_body_p2003_eq, wri_succ (by omega)]
        exact ih (j + 1) N h inn lv S (by omega) (by omega) rb hstep
      | false =>
        have hm : y ∉ S := fun h => by
          have := (rb.mem y).2 h
          rw [hc] at this
          cases this
        rw [if_neg hm] at hstep
        obtain ⟨w, h3, hK, rb'⟩ := rb.push hsh hyl hm
        rw [r13_body_p16019_eq, bsp_of (by rfl), sl_at hyl, stv_at rb.s (by simp [rb.len]; exact hyl) rfl rfl, hK, r13_body_p2003_eq, wri_succ (by omega)]
        exact ih (j + 1) N h3 _ w _ (by omega) (by omega) rb' hstep
    · rw [bsp_not (decide_eq_false ha), r13_body_p16019_eq, bsp_not (by rfl), r13_body_p2003_eq, wri_succ (by omega)]
      exact ih (j + 1) N h inn lv S (by omega) (by omega) rb (b1.skip hpy ha)
end
theorem refBody_spec {cs : List RV} {d : Cd} (hcd : IsCd cs d) (hf : formOk d.blocks = true) (hq : FlowOk d.blocks) {P : List Nat} (hP : IsPost d.blocks P) {par : Par} (kd : Done (grOf hf hq hP) par) {x1 : RV} (hx1 : IsInts x1 (dvs par d.blocks.length)) {hd : Nat} (hhd : hd ∈ P) :
    ∃ x body, F_r13_body [.agg cs, x1, I (hd : Nat)] = some (.ret x) ∧ IsInts x body ∧ body.Pairwise (· < ·) ∧ ∀ y : Int, y ∈ body ↔ ∃ z : Nat, y = z ∧ InB d.blocks par hd z := by
  have hl : 0 < d.blocks.length ∧ d.blocks.length ≤ 4096 := by
    simp only [formOk, Bool.and_eq_true, decide_eq_true_eq] at hf
    exact hf.1
  have g := grP hf hq hP
  have hple : P.length ≤ d.blocks.length := nodup_le _ P g.nd g.lt
  have hhl := g.lt hd hhd
  obtain ⟨p, r, v, b, rfl, _, _, _, hb⟩ := hcd
  have hz : ∀ n : Nat, zrep [ab false] n = (List.replicate n false).map ab := by
    intro n; simp [zrep]
  obtain ⟨h2, eh2⟩ : ∃ h2 : Hp, h2 = ([⟨0, 1, [.rv p, .rv r, .rv v, .rv b]⟩] ++ [(⟨0, 1, (List.replicate d.blocks.length false).map ab⟩ : Ob)] : Hp) := ⟨_, rfl⟩
  obtain ⟨h3, eh3⟩ : ∃ h3 : Hp, h3 = h2.set 1 ⟨0, 1, ((List.replicate d.blocks.length false).map ab).set hd (ab true)⟩ := ⟨_, rfl⟩
  have g1 : h2[1]? = some ⟨0, 1, (List.replicate d.blocks.length false).map ab⟩ := by rw [eh2]; rfl
  have rb : RB h3 d.blocks.length [.rv p, .rv r, .rv v, .rv b] ((List.replicate d.blocks.length false).set hd true) (.rv .nils) [hd] := by
    refine ⟨?_, ?_, by simp, fun y => ?_, .nil, by simp [own], by simp, fun y hy => ?_, by simp⟩
    · rw [eh3]; exact get_set_ne (by omega) (by rw [eh2]; rfl)
    · rw [eh3, List.map_set]; exact get_set_eq g1
    · rw [List.getElem?_set]
      by_cases e : hd = y
      · subst e; simp [hhl]
      · have : ¬ y = hd := fun h => e h.symm
        rw [if_neg e, List.getElem?_replicate]
        split <;> simp [this]
    · have : y = hd := by simpa using hy
      omega
  obtain ⟨h', w', body, e, kj, hbl, hsrt, hmem⟩ := rb_src kd g hple hx1 hb hl.2 hhl (fun z hz => (grOf hf hq hP).pin hd hhd z hz) (formOk_preds hf) big h3.length (by rw [big_val]; omega) d.blocks[hd].preds.length 0 big h3 _ _ _ (by omega) (by
    obtain ⟨a, q, s, t', rest', k1, k2, k3, k4, hbx⟩ := blk_at (R := ARes × Hp) hb hhl
    have := k2.short
    rw [big_val]; omega) rb ⟨rfl, fun y hy => by
    have : y = hd := by simpa using hy
    rw [this]
    exact .head, fun q p' hq => by omega⟩
  obtain ⟨x, hx, hix⟩ := kj.done (by omega)
  refine ⟨x, body, ?_, hix, hsrt, hmem⟩
  unfold F_r13_body
  have l1 : ([⟨0, 1, [.rv p, .rv r, .rv v, .rv b]⟩] : Hp).length = 1 := rfl
  rw [List.map_cons, List.map_cons, List.map_cons, List.map_nil, r13_body_eq, box_agg, List.nil_append, List.length_nil, show List.map AV.rv [p, r, v, b] = [.rv p, .rv r, .rv v, .rv b] from rfl, pad_ptr, ldv_at (by rfl) (x := .rv b) (by rfl), hb.len, mks_one (by omega) (by omega), hz, l1, ← eh2, sl_at hhl, stv_at g1 (by simp; exact hhl) rfl rfl, ← eh3]
  refine (congrArg pureR e).trans ?_
  simp only [pureR, hx]
  rfl
end Go.Proofs.Ytknphnmhjmejaaa
