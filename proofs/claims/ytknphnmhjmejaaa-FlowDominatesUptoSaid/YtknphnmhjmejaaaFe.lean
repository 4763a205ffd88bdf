/-  What the page's own Flow tells. No conditions. -/
import Derived.Test.YtknphnmhjmejaaaFb
namespace Go.Proofs.Ytknphnmhjmejaaa
set_option linter.unusedVariables false
/-- A block's kind, its ways on and its ways in fit. -/
def Joins (bs : List Blk) (i : Nat) (b : Blk) : Prop :=
  b.kind ≠ 0 → (b.succs.length : Int) = succsOf b.kind ∧ (∀ s ∈ b.succs, ∀ c, bs[s.toNat]? = some c → c.preds.count (i : Int) = b.succs.count s) ∧ (∀ p ∈ b.preds, ∀ c, bs[p.toNat]? = some c → c.succs.count (i : Int) ≠ 0)
/-- What is asked of blocks that have the form. -/
structure FlowOk (bs : List Blk) : Prop where
  head : ∀ b, bs[0]? = some b → b.kind ≠ 0 ∧ b.preds = []
  join : ∀ (i : Nat) (b : Blk), bs[i]? = some b → Joins bs i b
  reach : ∀ (i : Nat) (b : Blk), bs[i]? = some b → b.kind ≠ 0 → Rch bs (-1) 0 i
def Says (Q : Prop) (o : Option (ARes × Hp)) : Prop := (Q → ∃ h', o = some (.ret (ai 0), h')) ∧ (¬ Q → ∃ h', o = some (.ret (ai 131), h'))
theorem Says.bad {Q : Prop} {h : Hp} (hq : ¬ Q) : Says Q (some (.ret (.rv (.int .i64 131)), h)) := ⟨fun q => absurd q hq, fun _ => ⟨h, rfl⟩⟩
theorem Says.good {Q : Prop} {h : Hp} (hq : Q) : Says Q (some (.ret (.rv (.int .i64 0)), h)) := ⟨fun _ => ⟨h, rfl⟩, fun q => absurd hq q⟩
theorem formOk_preds {bs : List Blk} (h : formOk bs = true) : ∀ (x : Nat) (b : Blk), bs[x]? = some b → ∀ n ∈ b.preds, ∃ m : Nat, n = m ∧ m < bs.length := by
  intro x b hb n hn
  simp only [formOk, Bool.and_eq_true, List.all_eq_true] at h
  have := h.2 b (List.mem_of_getElem? hb)
  unfold blkOk at this
  split at this
  · simp at this
    rw [this.1] at hn
    simp at hn
  · simp only [Bool.and_eq_true] at this
    exact okNums_mem this.1.2 n hn
section
variable {p r v b : RV} {d : Cd} {oc : Nat}
theorem Flow_reached {x7 : RV} {seen : List Bool} (hd : IsCd [p, r, v, b] d) (hx7 : IsBools x7 seen) (hlen : seen.length = d.blocks.length) (hs4 : d.blocks.length ≤ 4096) (hseen : ∀ i : Nat, seen[i]? = some true ↔ Rch d.blocks (-1) 0 i) (k M : Nat)
    (Q : Prop) (hQ : Q ↔ ∀ (i : Nat) (b : Blk), d.blocks[i]? = some b → b.kind ≠ 0 → Rch d.blocks (-1) 0 i) : ∀ (m i N : Nat) (h : Hp), i + m = d.blocks.length → m < N → h[oc]? = some ⟨0, 1, [.rv p, .rv r, .rv v, .rv b]⟩ →
      (∀ (j : Nat) (b : Blk), j < i → d.blocks[j]? = some b → b.kind ≠ 0 → Rch d.blocks (-1) 0 j) → Says Q (r13_Flow_l1012 k N M (.ptr oc 0 0) (.rv x7) i h) := by
  have hd' := hd
  obtain ⟨p, r, v, b, e, _, _, _, hb⟩ := hd
  cases e
  intro m
  induction m with
  | zero =>
    intro i N h hi hN ho hp
    obtain ⟨N, rfl⟩ : ∃ q, N = q + 1 := ⟨N - 1, by omega⟩
    rw [r13_Flow_l1012_eq, pad_ptr, ldv_at ho rfl, hb.len, bsp_not (decide_eq_false (by omega)), r13_Flow_p127_eq]
    exact Says.good (hQ.2 fun j b hj hk => hp j b (by have := (List.getElem?_eq_some_iff.1 hj).1; omega) hj hk)
  | succ m ih =>
    intro i N h hi hN ho hp
    obtain ⟨N, rfl⟩ : ∃ q, N = q + 1 := ⟨N - 1, by omega⟩
    have hlt : i < d.blocks.length := by omega
    obtain ⟨a, q, s, t, rest, k1, k2, k3, k4, hx⟩ := blk_at (R := ARes × Hp) hb hlt
    have hbk : IsBlk [I d.blocks[i].kind, I d.blocks[i].n, a, q, s, t] d.blocks[i] := ⟨a, q, s, t, rfl, k1, k2, k3, k4⟩
    have next : (d.blocks[i].kind ≠ 0 → Rch d.blocks (-1) 0 i) → Says Q (r13_Flow_p16201 k N M (.ptr oc 0 0) (.rv x7) i false h) := by
      intro hr
      rw [r13_Flow_p16201_eq, bsp_not rfl, wri_succ (by omega)]
      refine ih (i + 1) N h (by omega) (by omega) ho fun j c hj hc hk => ?_
      rcases Nat.lt_or_ge j i with hlt' | hge
      · exact hp j c hlt' hc hk
      · obtain rfl : j = i := by omega
        rw [List.getElem?_eq_getElem hlt] at hc
        cases hc
        exact hr hk
    rw [r13_Flow_l1012_eq, pad_ptr, ldv_at ho rfl, hb.len, bsp_of (decide_eq_true (by omega)), pad_ptr, ldv_at ho rfl, hx, ldg6, callP_ret (by simp [toRV, depthA]) (Hole_spec hbk) (.inr rfl), asBool_b]
    by_cases h0 : d.blocks[i].kind = 0
    · rw [bsp_not (by simp [h0])]
      exact next fun hk => absurd h0 hk
    · rw [bsp_of (by simp [h0])]
      have hil : i < seen.length := by omega
      have e1 : ∀ K : Bool → Option (ARes × Hp), (ixa 1 (.rv x7) i fun p => ldb h p K) = K seen[i] := by
        intro K
        rw [hx7]
        have : ((i : Int) < seen.length) := by omega
        simp [ixa, ldb, ldv, cellAt, asBool0, hil]
      rw [e1]
      cases e : seen[i] with
      | true =>
        exact next fun _ => (hseen i).1 (by rw [List.getElem?_eq_getElem hil, e])
      | false =>
        rw [r13_Flow_p16201_eq, bsp_of (by rfl)]
        refine Says.bad fun hq => ?_
        have := (hseen i).2 (hQ.1 hq i d.blocks[i] (List.getElem?_eq_getElem hlt) h0)
        rw [List.getElem?_eq_getElem hil, e] at this
        cases this
theorem Flow_preds (hd : IsCd [p, r, v, b] d) (hf : formOk d.blocks = true) (k N M M' : Nat) (Q : Prop) (hQ : Q → ∀ (i : Nat) (b : Blk), d.blocks[i]? = some b → Joins d.blocks i b) {o i : Nat} (hi : i < d.blocks.length) (hk0 : d.blocks[i].kind ≠ 0) {a q s t : RV}
    (k1 : IsInts a d.blocks[i].args) (k2 : IsInts q d.blocks[i].preds) (k3 : IsInts s d.blocks[i].succs) (k4 : IsInts t d.blocks[i].list)
    (next : ∀ h, h[oc]? = some ⟨0, 1, [.rv p, .rv r, .rv v, .rv b]⟩ → (∀ x ∈ d.blocks[i].preds, ∀ c, d.blocks[x.toNat]? = some c → c.succs.count (i : Int) ≠ 0) → Says Q (r13_Flow_p979 k N M (.ptr oc 0 0) i h)) :
    ∀ (m j N' : Nat) (h : Hp), j + m = d.blocks[i].preds.length → m < N' → h[oc]? = some ⟨0, 1, [.rv p, .rv r, .rv v, .rv b]⟩ → h[o]? = some ⟨0, 1, [.rv (I d.blocks[i].kind), .rv (I d.blocks[i].n), .rv a, .rv q, .rv s, .rv t]⟩ →
      (∀ x ∈ d.blocks[i].preds.take j, ∀ c, d.blocks[x.toNat]? = some c → c.succs.count (i : Int) ≠ 0) → Says Q (r13_Flow_l250492 k N M N' M' (.ptr oc 0 0) i (.ptr o 0 0) j h) := by
  have hs := k2.short
  obtain ⟨p, r, v, b, e, _, _, _, hb⟩ := hd
  cases e
  intro m
  induction m with
  | zero =>
    intro j N' h hj hN hc ho hp
    obtain ⟨N', rfl⟩ : ∃ q, N' = q + 1 := ⟨N' - 1, by omega⟩
    rw [r13_Flow_l250492_eq, pad_ptr, ldv_at ho rfl, k2.len, bsp_not (decide_eq_false (by omega))]
    rw [List.take_of_length_le (by omega)] at hp
    exact next h hc hp
  | succ m ih =>
    intro j N' h hj hN hc ho hp
    obtain ⟨N', rfl⟩ : ∃ q, N' = q + 1 := ⟨N' - 1, by omega⟩
    have hlt : j < d.blocks[i].preds.length := by omega
    obtain ⟨n, hn, hnl⟩ := formOk_preds hf i d.blocks[i] (List.getElem?_eq_getElem hi) d.blocks[i].preds[j] (List.getElem_mem hlt)
    obtain ⟨a', q', s', t', rest, k1', k2', k3', k4', hx⟩ := blk_at (R := ARes × Hp) hb hnl
    rw [r13_Flow_l250492_eq, pad_ptr, ldv_at ho rfl, k2.len, bsp_of (decide_eq_true (by omega)), pad_ptr, ldv_at hc rfl, pad_ptr, ldv_at ho rfl, k2.at hlt, hn, hx, pad_rop4, ldv_rop,
      callP_ret (by simp [toRV, depthA]) (Count_spec k3' (i : Int)) (.inr rfl), asInt_i]
    by_cases h0 : d.blocks[n].succs.count (i : Int) = 0
    · rw [bsp_of (by simp [h0])]
      refine Says.bad fun hq => ?_
      have := (hQ hq i d.blocks[i] (List.getElem?_eq_getElem hi) hk0).2.2 d.blocks[i].preds[j] (List.getElem_mem hlt) d.blocks[n] (by rw [hn]; simp [hnl])
      exact this h0
    · rw [bsp_not (by simp; omega), wri_succ (by omega)]
      refine ih (j + 1) N' h (by omega) (by omega) hc ho fun x hx c hcx => ?_
      rw [List.take_add_one, List.getElem?_eq_getElem hlt, List.mem_append] at hx
      rcases hx with hx | hx
      · exact hp x hx c hcx
      · simp at hx
        subst hx
        rw [hn] at hcx
        simp [hnl] at hcx
        subst hcx
        exact h0
theorem Flow_succs (hd : IsCd [p, r, v, b] d) (hf : formOk d.blocks = true) (k N M M' : Nat) (Q : Prop) (hQ : Q → ∀ (i : Nat) (b : Blk), d.blocks[i]? = some b → Joins d.blocks i b) {o i : Nat} (hi : i < d.blocks.length) (hk0 : d.blocks[i].kind ≠ 0) {a q s t : RV}
    (k1 : IsInts a d.blocks[i].args) (k2 : IsInts q d.blocks[i].preds) (k3 : IsInts s d.blocks[i].succs) (k4 : IsInts t d.blocks[i].list)
    (next : ∀ h, h[oc]? = some ⟨0, 1, [.rv p, .rv r, .rv v, .rv b]⟩ → h[o]? = some ⟨0, 1, [.rv (I d.blocks[i].kind), .rv (I d.blocks[i].n), .rv a, .rv q, .rv s, .rv t]⟩ →
      (∀ x ∈ d.blocks[i].succs, ∀ c, d.blocks[x.toNat]? = some c → c.preds.count (i : Int) = d.blocks[i].succs.count x) → Says Q (r13_Flow_p31311 k N M (.ptr oc 0 0) i (.ptr o 0 0) h)) :
    ∀ (m j N' : Nat) (h : Hp), j + m = d.blocks[i].succs.length → m < N' → h[oc]? = some ⟨0, 1, [.rv p, .rv r, .rv v, .rv b]⟩ → h[o]? = some ⟨0, 1, [.rv (I d.blocks[i].kind), .rv (I d.blocks[i].n), .rv a, .rv q, .rv s, .rv t]⟩ →
      (∀ x ∈ d.blocks[i].succs.take j, ∀ c, d.blocks[x.toNat]? = some c → c.preds.count (i : Int) = d.blocks[i].succs.count x) → Says Q (r13_Flow_l250484 k N M N' M' (.ptr oc 0 0) i (.ptr o 0 0) j h) := by
  have hs := k3.short
  obtain ⟨p, r, v, b, e, _, _, _, hb⟩ := hd
  cases e
  intro m
  induction m with
  | zero =>
    intro j N' h hj hN hc ho hp
    obtain ⟨N', rfl⟩ : ∃ q, N' = q + 1 := ⟨N' - 1, by omega⟩
    rw [r13_Flow_l250484_eq, pad_ptr, ldv_at ho rfl, k3.len, bsp_not (decide_eq_false (by omega))]
    rw [List.take_of_length_le (by omega)] at hp
    exact next h hc ho hp
  | succ m ih =>
    intro j N' h hj hN hc ho hp
    obtain ⟨N', rfl⟩ : ∃ q, N' = q + 1 := ⟨N' - 1, by omega⟩
    have hlt : j < d.blocks[i].succs.length := by omega
    obtain ⟨n, hn, hnl⟩ := formOk_succs hf i d.blocks[i] (List.getElem?_eq_getElem hi) d.blocks[i].succs[j] (List.getElem_mem hlt)
    obtain ⟨a', q', s', t', rest, k1', k2', k3', k4', hx⟩ := blk_at (R := ARes × Hp) hb hnl
    rw [r13_Flow_l250484_eq, pad_ptr, ldv_at ho rfl, k3.len, bsp_of (decide_eq_true (by omega)), pad_ptr, ldv_at hc rfl, pad_ptr, ldv_at ho rfl, k3.at hlt, hn, hx, pad_rop3, ldv_rop,
      callP_ret (by simp [toRV, depthA]) (Count_spec k2' (i : Int)) (.inr rfl), asInt_i, pad_ptr, ldv_at ho rfl, pad_ptr, ldv_at ho rfl, k3.at hlt, hn, callP_ret (by simp [toRV, depthA]) (Count_spec k3 (n : Int)) (.inr rfl), asInt_i]
    by_cases h0 : d.blocks[n].preds.count (i : Int) = d.blocks[i].succs.count (n : Int)
    · rw [bsp_not (by simp [h0]), wri_succ (by omega)]
      refine ih (j + 1) N' h (by omega) (by omega) hc ho fun x hx c hcx => ?_
      rw [List.take_add_one, List.getElem?_eq_getElem hlt, List.mem_append] at hx
      rcases hx with hx | hx
      · exact hp x hx c hcx
      · simp at hx
        subst hx
        rw [hn] at hcx ⊢
        simp [hnl] at hcx
        subst hcx
        exact h0
    · rw [bsp_of (by simp; omega)]
      refine Says.bad fun hq => ?_
      have := (hQ hq i d.blocks[i] (List.getElem?_eq_getElem hi) hk0).2.1 d.blocks[i].succs[j] (List.getElem_mem hlt) d.blocks[n] (by rw [hn]; simp [hnl])
      rw [hn] at this
      exact h0 this
theorem Flow_outer (hd : IsCd [p, r, v, b] d) (hf : formOk d.blocks = true) (hhead : ∀ b, d.blocks[0]? = some b → b.kind ≠ 0 ∧ b.preds = []) (k M : Nat) (hk : 1000000000 < k) : ∀ (m i N : Nat) (h : Hp), i + m = d.blocks.length → m < N → h[oc]? = some ⟨0, 1, [.rv p, .rv r, .rv v, .rv b]⟩ →
      (∀ (j : Nat) (b : Blk), j < i → d.blocks[j]? = some b → Joins d.blocks j b) → Says (FlowOk d.blocks) (r13_Flow_l244 k N M (.ptr oc 0 0) i h) := by
  have hd' := hd
  have hl : 0 < d.blocks.length ∧ d.blocks.length ≤ 4096 := by
    simp only [formOk, Bool.and_eq_true, decide_eq_true_eq] at hf
    exact hf.1
  obtain ⟨p, r, v, b, e, _, _, _, hb⟩ := hd
  cases e
  intro m
  induction m with
  | zero =>
    intro i N h hi hN hc hp
    obtain ⟨N, rfl⟩ : ∃ q, N = q + 1 := ⟨N - 1, by omega⟩
    obtain ⟨x, seen, e, hx, hlen, hseen⟩ := Reached_spec hd' hf (-1)
    have hj : ∀ (j : Nat) (b : Blk), d.blocks[j]? = some b → Joins d.blocks j b := fun j b hj => hp j b (by have := (List.getElem?_eq_some_iff.1 hj).1; omega) hj
    rw [r13_Flow_l244_eq, pad_ptr, ldv_at hc rfl, hb.len, bsp_not (decide_eq_false (by omega)), r13_Flow_p31_eq, ldg_at hc (by rfl), callP_ret (by simp [toRV, depthA]) e (.inl rfl), show ((0 : Int)) = ((0 : Nat) : Int) from rfl]
    exact Flow_reached hd' hx hlen hl.2 (fun i => by simpa using hseen i) k _ (FlowOk d.blocks) ⟨fun q => q.reach, fun q => ⟨hhead, hj, q⟩⟩ d.blocks.length 0 k h (by omega) (by omega) hc (fun j b hj => by omega)
  | succ m ih =>
    intro i N h hi hN hc hp
    obtain ⟨N, rfl⟩ : ∃ q, N = q + 1 := ⟨N - 1, by omega⟩
    have hlt : i < d.blocks.length := by omega
    obtain ⟨a, q, s, t, rest, k1, k2, k3, k4, hx⟩ := blk_at (R := ARes × Hp) hb hlt
    have hbk : IsBlk [I d.blocks[i].kind, I d.blocks[i].n, a, q, s, t] d.blocks[i] := ⟨a, q, s, t, rfl, k1, k2, k3, k4⟩
    have hs2 := k2.short
    have hs3 := k3.short
    have next : ∀ h, h[oc]? = some ⟨0, 1, [.rv p, .rv r, .rv v, .rv b]⟩ → Joins d.blocks i d.blocks[i] → Says (FlowOk d.blocks) (r13_Flow_p979 k N M (.ptr oc 0 0) i h) := by
      intro h hc hj
      rw [r13_Flow_p979_eq, wri_succ (by omega)]
      refine ih (i + 1) N h (by omega) (by omega) hc fun j c hjl hcj => ?_
      rcases Nat.lt_or_ge j i with hlt' | hge
      · exact hp j c hlt' hcj
      · obtain rfl : j = i := by omega
        rw [List.getElem?_eq_getElem hlt] at hcj
        cases hcj
        exact hj
    rw [r13_Flow_l244_eq, pad_ptr, ldv_at hc rfl, hb.len, bsp_of (decide_eq_true (by omega)), pad_ptr, ldv_at hc rfl, hx, ldg6, var_agg (n := 6) (by rfl) (by rfl) (by simp [k1.one, k2.one, k3.one, k4.one, oneI])]
    have hc2 := get_old hc [⟨0, 1, [.rv (I d.blocks[i].kind), .rv (I d.blocks[i].n), .rv a, .rv q, .rv s, .rv t]⟩]
    have ho := get_new (h := h) ⟨0, 1, [.rv (I d.blocks[i].kind), .rv (I d.blocks[i].n), .rv a, .rv q, .rv s, .rv t]⟩
    generalize h ++ [⟨0, 1, [.rv (I d.blocks[i].kind), .rv (I d.blocks[i].n), .rv a, .rv q, .rv s, .rv t]⟩] = h2 at hc2 ho ⊢
    rw [ldg_at ho (by rfl), callP_ret (by simp [toRV, depthA]) (Hole_spec hbk) (.inr rfl), asBool_b]
    by_cases h0 : d.blocks[i].kind = 0
    · rw [bsp_of (by simpa using h0)]
      exact next h2 hc2 fun hk => absurd h0 hk
    · rw [bsp_not (by simpa using h0), pad_ptr, ldv_at ho rfl, k3.len, pad_ptr, ldi_at ho rfl, callP_ret (by simp [toRV, depthA]) (succs_spec d.blocks[i].kind) (.inr rfl), asInt_i]
      by_cases h1 : (d.blocks[i].succs.length : Int) = succsOf d.blocks[i].kind
      · rw [bsp_not (by simp [h1]), show ((0 : Int)) = ((0 : Nat) : Int) from rfl]
        refine Flow_succs hd' hf k N M _ (FlowOk d.blocks) (fun q => q.join) hlt h0 k1 k2 k3 k4 (fun h3 hc3 ho3 hsu => ?_) d.blocks[i].succs.length 0 k h2 (by omega) (by omega) hc2 ho (by simp)
        rw [r13_Flow_p31311_eq, show ((0 : Int)) = ((0 : Nat) : Int) from rfl]
        exact Flow_preds hd' hf k N M _ (FlowOk d.blocks) (fun q => q.join) hlt h0 k1 k2 k3 k4 (fun h4 hc4 hpr => next h4 hc4 fun _ => ⟨h1, hsu, hpr⟩) d.blocks[i].preds.length 0 k h3 (by omega) (by omega) hc3 ho3 (by simp)
      · rw [bsp_of (by simpa using h1)]
        exact Says.bad fun q => h1 (q.join i d.blocks[i] (List.getElem?_eq_getElem hlt) h0).1
end
theorem Flow_spec {cs : List RV} {d : Cd} (hd : IsCd cs d) :
    (formOk d.blocks = false → F_r13_Flow [.agg cs] = some (.ret (I 130))) ∧ (formOk d.blocks = true → FlowOk d.blocks → F_r13_Flow [.agg cs] = some (.ret (I 0))) ∧ (formOk d.blocks = true → ¬ FlowOk d.blocks → F_r13_Flow [.agg cs] = some (.ret (I 131))) := by
  have hd' := hd
  obtain ⟨p, r, v, b, rfl, _, _, _, hb⟩ := hd
  have hs := hb.short
  have ho : ([⟨0, 1, [.rv p, .rv r, .rv v, .rv b]⟩] : Hp)[0]? = some ⟨0, 1, [.rv p, .rv r, .rv v, .rv b]⟩ := rfl
  have start : F_r13_Flow [.agg [p, r, v, b]] = pureR (bsp (!(formOk d.blocks)) (some (.ret (.rv (.int .i64 130)), [⟨0, 1, [.rv p, .rv r, .rv v, .rv b]⟩])) (pad (.ptr 0 0 0) 3 fun p7 => ldv [⟨0, 1, [.rv p, .rv r, .rv v, .rv b]⟩] p7 fun v8 => ixa 6 v8 0 fun p9 => ldg 6 [⟨0, 1, [.rv p, .rv r, .rv v, .rv b]⟩] p9 fun v10 =>
      callP F_r13_Hole [⟨0, 1, [.rv p, .rv r, .rv v, .rv b]⟩] [v10] (fun r11 => asBool r11 fun b13 => bsp (b13) (r13_Flow_p29 big (.ptr 0 0 0) (true) [⟨0, 1, [.rv p, .rv r, .rv v, .rv b]⟩]) (pad (.ptr 0 0 0) 3 fun p14 => ldv [⟨0, 1, [.rv p, .rv r, .rv v, .rv b]⟩] p14 fun v15 => ixa 6 v15 0 fun p16 => pad p16 3 fun p17 =>
        ldv [⟨0, 1, [.rv p, .rv r, .rv v, .rv b]⟩] p17 fun v18 => lna v18 fun n19 => r13_Flow_p29 big (.ptr 0 0 0) (decide (n19 > 0)) [⟨0, 1, [.rv p, .rv r, .rv v, .rv b]⟩])) (fun q12 => some (.pan q12, [⟨0, 1, [.rv p, .rv r, .rv v, .rv b]⟩])))) := by
    unfold F_r13_Flow
    rw [List.map_cons, List.map_nil, r13_Flow_eq, box_agg, List.nil_append, List.length_nil, show List.map AV.rv [p, r, v, b] = [.rv p, .rv r, .rv v, .rv b] from rfl, ldg_at ho (by rfl), callP_ret (by simp [toRV, depthA]) (form_spec hd') (.inr rfl), asBool_b]
  rw [start]
  cases hf : formOk d.blocks with
  | false =>
    refine ⟨fun _ => ?_, fun h => (by cases h), fun h => (by cases h)⟩
    rw [bsp_of (by rfl)]
    simp [pureR, toRV, depthA]
  | true =>
    have hl : 0 < d.blocks.length ∧ d.blocks.length ≤ 4096 := by
      simp only [formOk, Bool.and_eq_true, decide_eq_true_eq] at hf
      exact hf.1
    have key : Says (FlowOk d.blocks) (pad (.ptr 0 0 0) 3 fun p7 => ldv [⟨0, 1, [.rv p, .rv r, .rv v, .rv b]⟩] p7 fun v8 => ixa 6 v8 0 fun p9 => ldg 6 [⟨0, 1, [.rv p, .rv r, .rv v, .rv b]⟩] p9 fun v10 =>
      callP F_r13_Hole [⟨0, 1, [.rv p, .rv r, .rv v, .rv b]⟩] [v10] (fun r11 => asBool r11 fun b13 => bsp (b13) (r13_Flow_p29 big (.ptr 0 0 0) (true) [⟨0, 1, [.rv p, .rv r, .rv v, .rv b]⟩]) (pad (.ptr 0 0 0) 3 fun p14 => ldv [⟨0, 1, [.rv p, .rv r, .rv v, .rv b]⟩] p14 fun v15 => ixa 6 v15 0 fun p16 => pad p16 3 fun p17 =>
        ldv [⟨0, 1, [.rv p, .rv r, .rv v, .rv b]⟩] p17 fun v18 => lna v18 fun n19 => r13_Flow_p29 big (.ptr 0 0 0) (decide (n19 > 0)) [⟨0, 1, [.rv p, .rv r, .rv v, .rv b]⟩])) (fun q12 => some (.pan q12, [⟨0, 1, [.rv p, .rv r, .rv v, .rv b]⟩]))) := by
      obtain ⟨a, q, s, t, rest, k1, k2, k3, k4, hx⟩ := blk_at (R := ARes × Hp) hb hl.1
      have hbk : IsBlk [I d.blocks[0].kind, I d.blocks[0].n, a, q, s, t] d.blocks[0] := ⟨a, q, s, t, rfl, k1, k2, k3, k4⟩
      have h00 : d.blocks[0]? = some d.blocks[0] := List.getElem?_eq_getElem hl.1
      rw [pad_ptr, ldv_at ho rfl, show ((0 : Int)) = ((0 : Nat) : Int) from rfl, hx, ldg6, callP_ret (by simp [toRV, depthA]) (Hole_spec hbk) (.inr rfl), asBool_b]
      by_cases h0 : d.blocks[0].kind = 0
      · rw [bsp_of (by simpa using h0), r13_Flow_p29_eq, bsp_of rfl]
        exact Says.bad fun q => (q.head _ h00).1 h0
      · rw [bsp_not (by simpa using h0), pad_ptr, ldv_at ho rfl, hx, pad_rop3, ldv_rop, k2.len, r13_Flow_p29_eq]
        by_cases h1 : d.blocks[0].preds = []
        · rw [bsp_not (by simp [h1]), show ((0 : Int)) = ((0 : Nat) : Int) from rfl]
          exact Flow_outer hd' hf (fun b hb => by rw [h00] at hb; cases hb; exact ⟨h0, h1⟩) big _ (by rw [big_val]; omega) d.blocks.length 0 big _ (by omega) (by rw [big_val]; omega) ho (fun j b hj => by omega)
        · have : 0 < d.blocks[0].preds.length := List.length_pos_iff.2 h1
          rw [bsp_of (decide_eq_true (by omega))]
          exact Says.bad fun q => h1 (q.head _ h00).2
    rw [bsp_not (by rfl)]
    refine ⟨fun h => (by cases h), fun _ q => ?_, fun _ q => ?_⟩
    · obtain ⟨h', e⟩ := key.1 q
      rw [e]
      simp [pureR, toRV, depthA]
    · obtain ⟨h', e⟩ := key.2 q
      rw [e]
      simp [pureR, toRV, depthA]
end Go.Proofs.Ytknphnmhjmejaaa
