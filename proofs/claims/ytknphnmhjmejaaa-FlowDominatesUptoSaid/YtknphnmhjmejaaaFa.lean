/-  What the flow's small functions tell. No conditions. -/
import Derived.Test.YtknphnmhjmejaaaGa
import Derived.Test.YtknphnmhjmejaaaLib
namespace Go.Proofs.Ytknphnmhjmejaaa
set_option linter.unusedVariables false
theorem Count_loop {l : RV} {xs : List Int} (hl : IsInts l xs) (n : Int) (k M : Nat) (h : Hp) : ∀ (m i c N : Nat), i + m = xs.length → m < N → c ≤ i →
    r13_Count_l116 k N M (.rv l) n c i h = some (.ret (ai ((c + (xs.drop i).count n : Nat))), h) := by
  intro m
  induction m with
  | zero =>
    intro i c N hi hN hc
    obtain ⟨N, rfl⟩ : ∃ N', N = N' + 1 := ⟨N - 1, by omega⟩
    rw [r13_Count_l116_eq, hl.len, bsp_not (decide_eq_false (by omega)), r13_Count_p15_eq, List.drop_eq_nil_of_le (by omega)]
    simp
  | succ m ih =>
    intro i c N hi hN hc
    obtain ⟨N, rfl⟩ : ∃ N', N = N' + 1 := ⟨N - 1, by omega⟩
    have hlt : i < xs.length := by omega
    have hs := hl.short
    rw [r13_Count_l116_eq, hl.len, bsp_of (decide_eq_true (by omega)), hl.at hlt, r13_Count_p467_eq, r13_Count_p467_eq, wri_succ (by omega), wri_succ (by omega), ih (i + 1) c N (by omega) (by omega) (by omega), ih (i + 1) (c + 1) N (by omega) (by omega) (by omega)]
    rw [List.drop_eq_getElem_cons hlt, List.count_cons]
    by_cases e : xs[i] = n
    · rw [bsp_of (by simpa using e)]
      simp [e]; omega
    · rw [bsp_not (by simpa using e)]
      simp [e]
theorem Count_spec {l : RV} {xs : List Int} (hl : IsInts l xs) (n : Int) : F_r13_Count [l, I n] = some (.ret (I (xs.count n : Nat))) := by
  have := Count_loop hl n big 0 [] xs.length 0 0 big (by omega) (by have := hl.short; rw [big_val]; omega) (by omega)
  simp only [F_r13_Count, List.map, r13_Count_eq, List.length_nil]
  rw [show ((0 : Int)) = ((0 : Nat) : Int) from rfl, this]
  simp [pureR, toRV, depthA]
theorem Hole_spec {c : List RV} {b : Blk} (hb : IsBlk c b) : F_r13_Hole [.agg c] = some (.ret (.bool (b.kind == 0))) := by
  obtain ⟨a, p, s, t, rfl, _⟩ := hb
  simp only [F_r13_Hole, List.map, r13_Hole_eq]
  rfl
def succsOf (k : Int) : Int := if k = 1 then 1 else if k = 2 then 2 else if k = 3 ∨ k = 4 then 0 else -1
theorem succs_spec (k : Int) : F_r13_succs [I k] = some (.ret (I (succsOf k))) := by
  simp only [F_r13_succs, List.map, r13_succs_eq, r13_succs_p863_eq]
  by_cases h1 : k = 1
  · subst h1; rfl
  by_cases h2 : k = 2
  · subst h2; rfl
  by_cases h3 : k = 3
  · subst h3; rfl
  by_cases h4 : k = 4
  · subst h4; rfl
  rw [bsp_not (by simpa using h1), bsp_not (by simpa using h2), bsp_not (by simpa using h3), bsp_not (by simpa using h4)]
  simp [pureR, toRV, depthA, succsOf, h1, h2, h3, h4]
/-- A list of blocks that are no holes. -/
def okNums (bs : List Blk) (l : List Int) : Bool := l.all fun n => decide (0 ≤ n) && match bs[n.toNat]? with | some b => b.kind != 0 | none => false
theorem numbers_loop {l v : RV} {xs : List Int} {bs : List Blk} (hl : IsInts l xs) (hv : IsRows 6 IsBlk v bs) {o e : Nat} {cs : List AV} {h : Hp} (ho : h[o]? = some ⟨0, e, cs⟩) (hc : cs[3]? = some (.rv v)) (k M : Nat) : ∀ (m i N : Nat), i + m = xs.length → m < N →
    r13_numbers_l52 k N M (.rv l) (.ptr o 0 0) i h = some (.ret (ab (okNums bs (xs.drop i))), h) := by
  intro m
  induction m with
  | zero =>
    intro i N hi hN
    obtain ⟨N, rfl⟩ : ∃ N', N = N' + 1 := ⟨N - 1, by omega⟩
    rw [r13_numbers_l52_eq, hl.len, bsp_not (decide_eq_false (by omega)), r13_numbers_p7_eq, List.drop_eq_nil_of_le (by omega)]
    rfl
  | succ m ih =>
    intro i N hi hN
    obtain ⟨N, rfl⟩ : ∃ N', N = N' + 1 := ⟨N - 1, by omega⟩
    have hlt : i < xs.length := by omega
    have hs := hl.short
    have ih' := ih (i + 1) N (by omega) (by omega)
    rw [r13_numbers_l52_eq, hl.len, bsp_of (decide_eq_true (by omega)), hl.at hlt, List.drop_eq_getElem_cons hlt]
    simp only [r13_numbers_p841_eq, wri_succ (show i < 9223372036854775807 by omega), ih', okNums, List.all_cons]
    by_cases h0 : xs[i] < 0
    · rw [bsp_of (decide_eq_true h0)]
      have : ¬ (0 ≤ xs[i]) := by omega
      simp [this, bsp]
    · obtain ⟨n, hn⟩ : ∃ n : Nat, xs[i] = n := ⟨xs[i].toNat, by omega⟩
      rw [bsp_not (decide_eq_false h0), hl.at hlt]
      simp only [pad, Nat.zero_add, ldv_at ho hc, hv.len, hn]
      by_cases h1 : n < bs.length
      · rw [bsp_not (decide_eq_false (by omega)), hl.at hlt, hn]
        obtain ⟨a, p, s, t, rest, k1, k2, k3, k4, hx⟩ := blk_at hv h1
        rw [hx, ldg6, callP_ret (by simp [toRV, depthA]) (Hole_spec ⟨a, p, s, t, rfl, k1, k2, k3, k4⟩) (.inr rfl)]
        simp only [asBool, Int.toNat_natCast, List.getElem?_eq_getElem h1]
        by_cases h2 : bs[n].kind = 0
        · rw [bsp_of (by simpa using h2)]
          simp [h2]
        · rw [bsp_not (by simpa using h2)]
          simp [h2]
      · rw [bsp_of (decide_eq_true (by omega))]
        simp [h1, bsp]
theorem numbers_spec {l : RV} {cs : List RV} {xs : List Int} {d : Cd} (hl : IsInts l xs) (hd : IsCd cs d) : F_r13_numbers [.agg cs, l] = some (.ret (.bool (okNums d.blocks xs))) := by
  obtain ⟨p, r, v, b, rfl, _, _, _, hb⟩ := hd
  have hs := hl.short
  have hk : xs.length < big := by rw [big_val]; omega
  have this := fun M => numbers_loop hl hb (o := 0) (h := [⟨0, 1, [.rv p, .rv r, .rv v, .rv b]⟩]) rfl rfl big M xs.length 0 big (by omega) (by omega)
  unfold F_r13_numbers
  rw [List.map_cons, List.map_cons, List.map_nil, r13_numbers_eq, box_agg, List.nil_append, List.length_nil, show ((0 : Int)) = ((0 : Nat) : Int) from rfl]
  rw [show List.map AV.rv [p, r, v, b] = [.rv p, .rv r, .rv v, .rv b] from rfl, this]
  simp [pureR, toRV, depthA]
def blkOk (bs : List Blk) (b : Blk) : Bool :=
  if b.kind = 0 then b.preds.isEmpty && b.succs.isEmpty else decide (0 ≤ succsOf b.kind) && okNums bs b.preds && okNums bs b.succs
theorem isEmpty_pos (xs : List Int) : (decide ((xs.length : Int) > 0)) = !xs.isEmpty := by
  cases xs <;> simp
theorem form_loop {p r v b : RV} {d : Cd} (hd : IsCd [p, r, v, b] d) {o : Nat} (k M : Nat) : ∀ (m i N : Nat) (h : Hp), h[o]? = some ⟨0, 1, [.rv p, .rv r, .rv v, .rv b]⟩ → i + m = d.blocks.length → m < N →
    ∃ h', r13_form_l116 k N M (.ptr o 0 0) i h = some (.ret (ab ((d.blocks.drop i).all (blkOk d.blocks))), h') := by
  have hd' := hd
  obtain ⟨p, r, v, b, e, _, _, _, hb⟩ := hd
  cases e
  intro m
  induction m with
  | zero =>
    intro i N h ho hi hN
    obtain ⟨N, rfl⟩ : ∃ N', N = N' + 1 := ⟨N - 1, by omega⟩
    rw [r13_form_l116_eq, pad_ptr, ldv_at ho rfl, hb.len, bsp_not (decide_eq_false (by omega)), r13_form_p15_eq, List.drop_eq_nil_of_le (by omega)]
    exact ⟨_, rfl⟩
  | succ m ih =>
    intro i N h ho hi hN
    obtain ⟨N, rfl⟩ : ∃ N', N = N' + 1 := ⟨N - 1, by omega⟩
    have hlt : i < d.blocks.length := by omega
    have hs := hb.short
    obtain ⟨a, q, s, t, rest, k1, k2, k3, k4, hx⟩ := blk_at (R := ARes × Hp) hb hlt
    have hbk : IsBlk [I d.blocks[i].kind, I d.blocks[i].n, a, q, s, t] d.blocks[i] := ⟨a, q, s, t, rfl, k1, k2, k3, k4⟩
    rw [r13_form_l116_eq, pad_ptr, ldv_at ho rfl, hb.len, bsp_of (decide_eq_true (by omega)), pad_ptr, ldv_at ho rfl, hx, ldg6, var_agg (n := 6) (by rfl) (by rfl) (by simp [k1.one, k2.one, k3.one, k4.one]; exact ⟨rfl, rfl⟩), List.drop_eq_getElem_cons hlt, List.all_cons]
    have ho2 := get_old ho [⟨0, 1, [.rv (I d.blocks[i].kind), .rv (I d.blocks[i].n), .rv a, .rv q, .rv s, .rv t]⟩]
    have hp := get_new (h := h) ⟨0, 1, [.rv (I d.blocks[i].kind), .rv (I d.blocks[i].n), .rv a, .rv q, .rv s, .rv t]⟩
    generalize h ++ [⟨0, 1, [.rv (I d.blocks[i].kind), .rv (I d.blocks[i].n), .rv a, .rv q, .rv s, .rv t]⟩] = h2 at ho2 hp ⊢
    obtain ⟨h', ih'⟩ := ih (i + 1) N h2 ho2 (by omega) (by omega)
    have next : ∀ x : Bool, (x = false → blkOk d.blocks d.blocks[i] = true) → (x = true → blkOk d.blocks d.blocks[i] = false) →
        ∃ h', bsp x (some (.ret (.rv (.bool false)), h2)) (r13_form_p467 k N M (.ptr o 0 0) i h2) = some (.ret (ab (blkOk d.blocks d.blocks[i] && (d.blocks.drop (i + 1)).all (blkOk d.blocks))), h') := by
      intro x h0 h1
      cases x with
      | false => rw [bsp_not rfl, r13_form_p467_eq, wri_succ (by omega), ih', h0 rfl]; exact ⟨h', by simp⟩
      | true => rw [bsp_of rfl, h1 rfl]; exact ⟨h2, by simp⟩
    rw [ldg_at hp (by rfl), callP_ret (by simp [toRV, depthA]) (Hole_spec hbk) (.inr rfl), asBool_b]
    by_cases h0 : d.blocks[i].kind = 0
    · rw [bsp_of (by simpa using h0), pad_ptr, ldv_at hp rfl, k2.len, pad_ptr, ldv_at hp rfl, k3.len, isEmpty_pos, isEmpty_pos]
      cases e1 : d.blocks[i].preds.isEmpty with
      | false => rw [bsp_of (by simp), r13_form_p59689_eq]; exact next true (by simp) (fun _ => by unfold blkOk; rw [if_pos h0, e1]; rfl)
      | true => rw [bsp_not (by simp), r13_form_p59689_eq]; exact next _ (fun e => by unfold blkOk; rw [if_pos h0, e1]; simpa using e) (fun e => by unfold blkOk; rw [if_pos h0, e1]; simpa using e)
    · rw [bsp_not (by simpa using h0), pad_ptr, ldi_at hp rfl, callP_ret (by simp [toRV, depthA]) (succs_spec d.blocks[i].kind) (.inr rfl), asInt_i]
      by_cases h1 : succsOf d.blocks[i].kind < 0
      · rw [bsp_of (decide_eq_true h1), r13_form_p7463_eq]
        exact next true (by simp) (fun _ => by simp [blkOk, h0]; intro; omega)
      · rw [bsp_not (decide_eq_false h1), ldg_at ho2 (by rfl), pad_ptr, ldv_at hp rfl, callP_ret (by simp [toRV, depthA]) (numbers_spec k2 hd') (.inr rfl), asBool_b]
        cases e1 : okNums d.blocks d.blocks[i].preds with
        | false => rw [bsp_of (by simp), r13_form_p7463_eq]; exact next true (by simp) (fun _ => by simp [blkOk, h0, e1])
        | true =>
          rw [bsp_not (by simp), ldg_at ho2 (by rfl), pad_ptr, ldv_at hp rfl, callP_ret (by simp [toRV, depthA]) (numbers_spec k3 hd') (.inr rfl), asBool_b, r13_form_p7463_eq]
          exact next _ (fun e => by simp only [Bool.not_eq_false'] at e; simp [blkOk, h0, e1, e]; omega) (fun e => by simp only [Bool.not_eq_true'] at e; simp [blkOk, h0, e1, e])
def formOk (bs : List Blk) : Bool := decide (0 < bs.length ∧ bs.length ≤ 4096) && bs.all (blkOk bs)
theorem form_spec {cs : List RV} {d : Cd} (hd : IsCd cs d) : F_r13_form [.agg cs] = some (.ret (.bool (formOk d.blocks))) := by
  have hd' := hd
  obtain ⟨p, r, v, b, rfl, _, _, _, hb⟩ := hd
  have hs := hb.short
  have ho : ([⟨0, 1, [.rv p, .rv r, .rv v, .rv b]⟩] : Hp)[0]? = some ⟨0, 1, [.rv p, .rv r, .rv v, .rv b]⟩ := rfl
  unfold F_r13_form
  rw [List.map_cons, List.map_nil, r13_form_eq, box_agg, List.nil_append, List.length_nil, show List.map AV.rv [p, r, v, b] = [.rv p, .rv r, .rv v, .rv b] from rfl,
    pad_ptr, ldv_at ho rfl, hb.len]
  by_cases h0 : d.blocks.length = 0
  · rw [bsp_of (by simp [h0]), r13_form_p13_eq, bsp_of rfl]
    simp [pureR, toRV, depthA, formOk, h0]
  · rw [bsp_not (by simp; intro e; simp [e] at h0), pad_ptr, ldv_at ho rfl, hb.len, r13_form_p13_eq]
    by_cases h1 : d.blocks.length > 4096
    · rw [bsp_of (decide_eq_true (by omega))]
      have : ¬ (d.blocks.length ≤ 4096) := by omega
      simp [pureR, toRV, depthA, formOk, this]
    · have ⟨h', e⟩ := form_loop hd' (o := 0) big ([⟨0, 1, [.rv p, .rv r, .rv v, .rv b]⟩] : Hp).length d.blocks.length 0 big [⟨0, 1, [.rv p, .rv r, .rv v, .rv b]⟩] rfl (by omega) (by rw [big_val]; omega)
      rw [bsp_not (decide_eq_false (by omega)), show ((0 : Int)) = ((0 : Nat) : Int) from rfl, e]
      have h2 : 0 < d.blocks.length ∧ d.blocks.length ≤ 4096 := by omega
      simp [pureR, toRV, depthA, formOk, h2]
theorem EqNumbers_loop {a b : RV} {xs ys : List Int} (ha : IsInts a xs) (hb : IsInts b ys) (hl : xs.length = ys.length) (k M : Nat) (h : Hp) : ∀ (m i N : Nat), i + m = xs.length → m < N →
    r0_EqNumbers_l116 k N M (.rv a) (.rv b) i h = some (.ret (ab (xs.drop i == ys.drop i)), h) := by
  intro m
  induction m with
  | zero =>
    intro i N hi hN
    obtain ⟨N, rfl⟩ : ∃ N', N = N' + 1 := ⟨N - 1, by omega⟩
    rw [r0_EqNumbers_l116_eq, ha.len, bsp_not (decide_eq_false (by omega)), r0_EqNumbers_p15_eq, List.drop_eq_nil_of_le (by omega), List.drop_eq_nil_of_le (by omega)]
    rfl
  | succ m ih =>
    intro i N hi hN
    obtain ⟨N, rfl⟩ : ∃ N', N = N' + 1 := ⟨N - 1, by omega⟩
    have hlt : i < xs.length := by omega
    have hlt' : i < ys.length := by omega
    have hs := ha.short
    rw [r0_EqNumbers_l116_eq, ha.len, bsp_of (decide_eq_true (by omega)), ha.at hlt, hb.at hlt', wri_succ (by omega), ih (i + 1) N (by omega) (by omega), List.drop_eq_getElem_cons hlt, List.drop_eq_getElem_cons hlt']
    rw [show (xs[i] :: xs.drop (i + 1) == ys[i] :: ys.drop (i + 1)) = (xs[i] == ys[i] && xs.drop (i + 1) == ys.drop (i + 1)) from rfl]
    by_cases e : xs[i] = ys[i]
    · rw [bsp_not (by simpa using e), show (xs[i] == ys[i]) = true by simpa using e]
      rfl
    · rw [bsp_of (by simpa using e), show (xs[i] == ys[i]) = false by simpa using e]
      rfl
theorem EqNumbers_spec {a b : RV} {xs ys : List Int} (ha : IsInts a xs) (hb : IsInts b ys) : F_r0_EqNumbers [a, b] = some (.ret (.bool (xs == ys))) := by
  have hs := ha.short
  unfold F_r0_EqNumbers
  rw [List.map_cons, List.map_cons, List.map_nil, r0_EqNumbers_eq, ha.len, hb.len]
  by_cases hl : xs.length = ys.length
  · rw [bsp_not (by simp [hl]), show ((0 : Int)) = ((0 : Nat) : Int) from rfl, EqNumbers_loop ha hb hl big _ [] xs.length 0 big (by omega) (by rw [big_val]; omega)]
    simp [pureR, toRV, depthA]
  · rw [bsp_of (by simp; omega)]
    have : (xs == ys) = false := by simp; intro e; rw [e] at hl; exact hl rfl
    simp [pureR, toRV, depthA, this]
theorem mapM_ints {h : Hp} (n : Nat) (xs : List Int) : (xs.map fun x => AV.rv (I x)).mapM (toRV h (n + 1)) = some (ints xs) := by
  induction xs with
  | nil => rfl
  | cons b bs ih => simp only [List.map_cons, List.mapM_cons, toRV, ih]; rfl
theorem toRV_ints {h : Hp} {o v : Nat} {xs : List Int} (ho : h[o]? = some ⟨v, 1, xs.map fun x => AV.rv (I x)⟩) : toRV h depthA (.sl o v 0 xs.length) = some (.ros (ints xs) xs.length) := by
  have h1 : ((xs.map fun x => AV.rv (I x)).drop 0).take (xs.length * 1) = xs.map fun x => AV.rv (I x) := by
    rw [List.drop_zero, List.take_of_length_le (by simp)]
  simp only [depthA, toRV, ho]
  rw [if_pos (by simp), h1, mapM_ints]
  rfl
theorem CopyNumbers_spec {a : RV} {xs : List Int} (ha : IsInts a xs) : ∃ r, F_r0_CopyNumbers [a] = some (.ret r) ∧ IsInts r xs := by
  have hs := ha.short
  unfold F_r0_CopyNumbers
  rw [List.map_cons, List.map_nil, r0_CopyNumbers_eq]
  cases ha with
  | nil => exact ⟨.nils, rfl, .nil⟩
  | mk xs hx =>
    have hz : (ints xs).length = xs.length := by simp [ints]
    by_cases h0 : xs.length = 0
    · obtain rfl : xs = [] := by simpa using h0
      exact ⟨.nils, rfl, .nil⟩
    · have e1 : (xs.length : Int) ≤ room := by simp [room]; omega
      have e2 : (8 : Int) * (xs.length : Int) ≤ room := by simp [room]; omega
      have e3 : ((ints xs).take (xs.length * 1)).map AV.rv = xs.map fun x => AV.rv (I x) := by
        rw [List.take_of_length_le (by omega)]; simp [ints]
      have e4 : (xs.map fun x => AV.rv (I x)).all oneA = true := by simp [oneA]
      have e5 : apn 1 8 [] (.rv .nils) (.rv (.ros (ints xs) xs.length)) (fun v1 h2 => some (ARes.ret v1, h2)) = some (.ret (.sl 0 0 0 xs.length), [⟨0, 1, xs.map fun x => AV.rv (I x)⟩]) := by
        simp only [apn, wcells]
        rw [if_pos (by omega)]
        simp only [e3]
        rw [if_neg h0, if_pos ⟨e1, e2, e4⟩]
        rfl
      refine ⟨.ros (ints xs) xs.length, ?_, .mk xs hx⟩
      rw [e5]
      simp only [pureR]
      rw [toRV_ints (by rfl)]
      rfl
end Go.Proofs.Ytknphnmhjmejaaa
