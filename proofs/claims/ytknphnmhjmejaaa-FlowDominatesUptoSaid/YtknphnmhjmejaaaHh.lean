/-  Whether a block is reached from another one; that the smallest program wakes. No conditions. -/
import Derived.Test.YtknphnmhjmejaaaHg
import Derived.Test.YtknphnmhjmejaaaGb5
namespace Go.Proofs.Ytknphnmhjmejaaa
set_option linter.unusedVariables false
section
variable {p r v b : RV} {d : Cd} {s : Nat} {oc os ol : Nat} {k' : Nat}
def RchPost (bs : List Blk) (s to : Nat) (o : Option (ARes × Hp)) : Prop := ∃ (h' : Hp) (q : Bool), o = some (.ret (ab q), h') ∧ (q = true ↔ Rch bs (-1) s to)
theorem reaches_inner (hd : IsCd [p, r, v, b] d) (hsh : d.blocks.length < 17592186044415) (hok : okSuccs d.blocks) (to k N M M' i x : Nat) {bx : Blk} {sv : RV} (hbx : d.blocks[x]? = some bx) (hsv : IsInts sv bx.succs)
    (outer : ∀ seen list vl h, RH h oc os ol vl [.rv p, .rv r, .rv v, .rv b] seen list → BI d.blocks (-1) s seen list (i + 1) 0 → RchPost d.blocks s to (w13_reaches_l500 k N M to (.ptr oc 0 0) (.sl os 0 0 d.blocks.length) (.sl ol vl 0 list.length) ((i + 1 : Nat) : Int) h)) :
    ∀ (m j N' : Nat) (seen : List Bool) (list : List Nat) (vl : Nat) (h : Hp), j + m = bx.succs.length → m < N' → list[i]? = some x → RH h oc os ol vl [.rv p, .rv r, .rv v, .rv b] seen list → BI d.blocks (-1) s seen list i j →
      RchPost d.blocks s to (w13_reaches_l64076 k N M N' M' to (.ptr oc 0 0) (.sl os 0 0 d.blocks.length) (.sl ol vl 0 list.length) i (.rv sv) j h) := by
  intro m
  induction m with
  | zero =>
    intro j N' seen list vl h hj hN hx hh hi
    obtain ⟨N', rfl⟩ : ∃ q, N' = q + 1 := ⟨N' - 1, by omega⟩
    have hb := hi.bound
    have hil := (List.getElem?_eq_some_iff.1 hx).1
    rw [w13_reaches_l64076_eq, hsv.len, bsp_not (decide_eq_false (by omega)), w13_reaches_p2003_eq, wri_succ (by omega)]
    exact outer seen list vl h hh (hi.next hx hbx (by omega))
  | succ m ih =>
    intro j N' seen list vl h hj hN hx hh hi
    obtain ⟨N', rfl⟩ : ∃ q, N' = q + 1 := ⟨N' - 1, by omega⟩
    have hjl : j < bx.succs.length := by omega
    have hss := hsv.short
    have hbd := hi.bound
    obtain ⟨n, hn, hnl⟩ := hok x bx hbx bx.succs[j] (List.getElem_mem hjl)
    have hsj : bx.succs[j]? = some (n : Int) := by rw [List.getElem?_eq_getElem hjl, hn]
    have hsn : ∃ q, seen[n]? = some q := ⟨seen[n]'(by rw [hi.len]; exact hnl), List.getElem?_eq_getElem _⟩
    obtain ⟨q, hq⟩ := hsn
    rw [w13_reaches_l64076_eq, hsv.len, bsp_of (decide_eq_true (by omega)), hsv.at hjl, hn, sl_at hnl, ldb_at (b := q) hh.s (by simp [hq])]
    cases q with
    | true =>
      rw [bsp_not (by rfl), w13_reaches_p256307_eq, wri_succ (by omega)]
      exact ih (j + 1) N' seen list vl h (by omega) (by omega) hx hh (hi.skip hx hbx hsj (.inr hq))
    | false =>
      rw [bsp_of (by rfl), hsv.at hjl, hn, sl_at hnl, stv_at hh.s (by simp; rw [hi.len]; exact hnl) rfl rfl, hsv.at hjl, hn, bsl_one rfl]
      rw [apn_one (get_set_ne hh.sl hh.l) (by simp) (by omega) rfl, w13_reaches_p256307_eq, wri_succ (by omega)]
      have := ih (j + 1) N' (seen.set n true) (list ++ [n]) (vl + 1) _ (by omega) (by omega) (by rw [List.getElem?_append_left (List.getElem?_eq_some_iff.1 hx).1]; exact hx) (hh.push n) (hi.push hx hbx hsj (by omega) hq)
      rw [List.length_append] at this
      exact this
theorem reaches_outer (hd : IsCd [p, r, v, b] d) (hsh : d.blocks.length < 17592186044415) (hok : okSuccs d.blocks) (hk : d.blocks.length + 140737488355330 < k') (to M : Nat) (hto : to < d.blocks.length) :
    ∀ (m i N : Nat) (seen : List Bool) (list : List Nat) (vl : Nat) (h : Hp), i + m = d.blocks.length → m < N → RH h oc os ol vl [.rv p, .rv r, .rv v, .rv b] seen list → BI d.blocks (-1) s seen list i 0 →
      RchPost d.blocks s to (w13_reaches_l500 k' N M to (.ptr oc 0 0) (.sl os 0 0 d.blocks.length) (.sl ol vl 0 list.length) i h) := by
  have fin : ∀ (i N : Nat) (seen : List Bool) (list : List Nat) (vl : Nat) (h : Hp), list.length ≤ i → 0 < N → RH h oc os ol vl [.rv p, .rv r, .rv v, .rv b] seen list → BI d.blocks (-1) s seen list i 0 →
      RchPost d.blocks s to (w13_reaches_l500 k' N M to (.ptr oc 0 0) (.sl os 0 0 d.blocks.length) (.sl ol vl 0 list.length) i h) := by
    intro i N seen list vl h hi hN hh hb
    obtain ⟨N, rfl⟩ : ∃ q, N = q + 1 := ⟨N - 1, by omega⟩
    obtain ⟨q, hq⟩ : ∃ q, seen[to]? = some q := ⟨_, List.getElem?_eq_getElem (by rw [hb.len]; exact hto)⟩
    rw [w13_reaches_l500_eq, sl_len, bsp_not (decide_eq_false (by omega)), w13_reaches_p63_eq, sl_at hto, ldb_at (b := q) hh.s (by simp [hq])]
    refine ⟨h, q, rfl, ?_⟩
    rw [← hb.fin hi, hq]
    simp
  intro m
  induction m with
  | zero =>
    intro i N seen list vl h hi hN hh hb
    exact fin i N seen list vl h (by have := hb.bound; omega) hN hh hb
  | succ m ih =>
    intro i N seen list vl h hi hN hh hbi
    by_cases hl : list.length ≤ i
    · exact fin i N seen list vl h hl (by omega) hh hbi
    · obtain ⟨N, rfl⟩ : ∃ q, N = q + 1 := ⟨N - 1, by omega⟩
      have hil : i < list.length := by omega
      have hd' := hd
      obtain ⟨p, r, v, b, e, _, _, _, hb⟩ := hd
      cases e
      have hxl : list[i] < d.blocks.length := hbi.lt (List.getElem_mem hil)
      obtain ⟨a, q, t, u, rest, k1, k2, k3, k4, hx⟩ := blk_at (R := ARes × Hp) hb hxl
      rw [w13_reaches_l500_eq, sl_len, bsp_of (decide_eq_true (by omega)), pad_ptr, ldv_at hh.c rfl, sl_at hil, ldi_at (n := (list[i] : Nat)) hh.l (by simp [hil]), hx, pad_rop4, ldv_rop]
      exact reaches_inner hd' hsh hok to k' N M _ i list[i] (List.getElem?_eq_getElem hxl) k3 (fun seen' list' vl' h' hh' hb' => ih (i + 1) N seen' list' vl' h' (by omega) (by omega) hh' hb')
        d.blocks[list[i]].succs.length 0 k' seen list vl h (by omega) (by have := k3.short; omega) (List.getElem?_eq_getElem hil) hh hbi
theorem reaches_spec {cs : List RV} (hd : IsCd cs d) (hsh : d.blocks.length ≤ 4096) (hok : okSuccs d.blocks) {s to : Nat} (hs : s < d.blocks.length) (hto : to < d.blocks.length) :
    ∃ q, F_w13_reaches [.agg cs, I s, I to] = some (.ret (.bool q)) ∧ (q = true ↔ Rch d.blocks (-1) s to) := by
  have hd' := hd
  obtain ⟨p, r, v, b, rfl, _, _, _, hb⟩ := hd
  have ho : ([⟨0, 1, [.rv p, .rv r, .rv v, .rv b]⟩] : Hp)[0]? = some ⟨0, 1, [.rv p, .rv r, .rv v, .rv b]⟩ := rfl
  have hz : ∀ n : Nat, zrep [ab false] n = (List.replicate n false).map ab := by
    intro n; simp [zrep]
  obtain ⟨h1, eh1⟩ : ∃ h1 : Hp, h1 = [⟨0, 1, [.rv p, .rv r, .rv v, .rv b]⟩] ++ [⟨0, 1, zrep [ab false] d.blocks.length⟩] := ⟨_, rfl⟩
  have hc0 : h1[0]? = some ⟨0, 1, [.rv p, .rv r, .rv v, .rv b]⟩ := by rw [eh1]; rfl
  have hs0 : h1[1]? = some ⟨0, 1, (List.replicate d.blocks.length false).map ab⟩ := by rw [eh1, hz]; rfl
  have hl1 : ([⟨0, 1, [.rv p, .rv r, .rv v, .rv b]⟩] : Hp).length = 1 := rfl
  unfold F_w13_reaches
  rw [List.map_cons, List.map_cons, List.map_cons, List.map_nil, w13_reaches_eq, box_agg, List.nil_append, List.length_nil, show List.map AV.rv [p, r, v, b] = [.rv p, .rv r, .rv v, .rv b] from rfl,
    pad_ptr, ldv_at ho rfl, hb.len, mks_one (by omega) (by omega), hl1, ← eh1, sl_at hs, stv_at hs0 (by simp; exact hs) rfl rfl, bsl_one rfl, List.length_set]
  obtain ⟨h', q, e, hq⟩ := reaches_outer (s := s) (k' := big) hd' (by omega) hok (by rw [big_val]; omega) to
    (h1.set 1 ⟨0, 1, ((List.replicate d.blocks.length false).map ab).set s (ab true)⟩ ++ [(⟨0, 1, [an' s]⟩ : Ob)]).length hto d.blocks.length 0 big _ [s] 0 _ (by omega) (by rw [big_val]; omega) (RH.init hc0 hs0 (by omega) s) (BI.init hs)
  refine ⟨q, ?_, hq⟩
  rw [show (([s] : List Nat).length) = 1 from rfl] at e
  rw [show ((0 : Int)) = ((0 : Nat) : Int) from rfl, e]
  simp [pureR, toRV, depthA]
end
/-! ### The smallest program -/
def smallCd (n : Int) : Cd := ⟨[], [5], [⟨9, 12, [], 0, 0⟩, ⟨1, 5, [], n, 0⟩], [⟨3, 0, [1, 0], [], [], [0, 1]⟩]⟩
def smallRV (n : Int) : List RV := [.nils, .ros [I 5] 1, .ros [I 9, I 12, .nils, I 0, I 0, I 1, I 5, .nils, I n, I 0] 2, .ros [I 3, I 0, .ros [I 1, I 0] 2, .nils, .nils, .ros [I 0, I 1] 2] 1]
theorem Small_spec (n : Int) : F_w12_Small [I n] = some (.ret (.agg [.ros (smallRV n) 1, .nils])) := by
  unfold F_w12_Small
  rw [List.map_cons, List.map_nil, w12_Small_eq]
  rfl
theorem isInts_of (xs : List Int) (h : xs.length < 1000000000) : IsInts (.ros (ints xs) xs.length) xs := .mk xs h
theorem small_isCd (n : Int) : IsCd (smallRV n) (smallCd n) := by
  refine ⟨_, _, _, _, rfl, .nil, isInts_of [5] (by simp), ?_, ?_⟩
  · exact .mk (n := 5) (Q := IsVl) (l := (smallCd n).values) (.cons (c := [I 9, I 12, .nils, I 0, I 0]) rfl ⟨.nils, rfl, .nil⟩ (.cons (c := [I 1, I 5, .nils, I n, I 0]) rfl ⟨.nils, rfl, .nil⟩ .nil)) (by simp [smallCd])
  · exact .mk (n := 6) (Q := IsBlk) (l := (smallCd n).blocks) (.cons (c := [I 3, I 0, .ros [I 1, I 0] 2, .nils, .nils, .ros [I 0, I 1] 2]) rfl ⟨_, _, _, _, rfl, isInts_of [1, 0] (by simp), .nil, .nil, isInts_of [0, 1] (by simp)⟩ .nil) (by simp [smallCd])
theorem small_form (n : Int) : formOk (smallCd n).blocks = true := rfl
theorem small_flow (n : Int) : FlowOk (smallCd n).blocks := by
  have h0 : ∀ (i : Nat) (b : Blk), (smallCd n).blocks[i]? = some b → i = 0 ∧ b = ⟨3, 0, [1, 0], [], [], [0, 1]⟩ := by
    intro i b hb
    simp only [smallCd] at hb
    cases i with
    | zero => simp at hb; exact ⟨rfl, hb.symm⟩
    | succ i => simp at hb
  refine ⟨fun b hb => ?_, fun i b hb hk => ?_, fun i b hb hk => ?_⟩
  · obtain ⟨_, rfl⟩ := h0 0 b hb; simp
  · obtain ⟨rfl, rfl⟩ := h0 i b hb; simp [succsOf]
  · obtain ⟨rfl, rfl⟩ := h0 i b hb; exact .start
theorem small_post (n : Int) : IsPost (smallCd n).blocks [0] := ⟨[0], .go (by simp) (.nil _ _) (.nil _ _)⟩
theorem num_spec (n : Int) : F_w13_num [I n] = some (.ret (I n)) := by
  unfold F_w13_num
  rw [List.map_cons, List.map_nil, w13_num_eq]
  rfl
theorem wakes_spec : F_w13_wakes [] = some (.ret (.bool true)) := by
  obtain ⟨x, e, hx⟩ := Post_spec (small_isCd 3) (small_form 3) (small_flow 3) (small_post 3)
  have h1 : ∀ (K : AV → Option (ARes × Hp)), fldA 1 0 true (.rv (.agg [.ros (smallRV 3) 1, .nils])) K = K (.rv (.ros (smallRV 3) 1)) := fun K => rfl
  have h2 : ∀ (K : AV → Option (ARes × Hp)), ixa 4 (.rv (.ros (smallRV 3) 1)) 0 K = K (.rv (.rop (smallRV 3))) := fun K => rfl
  have h3 : ∀ (K : AV → Option (ARes × Hp)), ldg 4 [] (.rv (.rop (smallRV 3))) K = K (.agg ((smallRV 3).map .rv)) := fun K => rfl
  have h4 : ∀ (K : AV → Option (ARes × Hp)), xtr (.rv (.tuple [x, I 0])) 0 K = K (.rv x) := fun K => rfl
  have h5 : ∀ (K : AV → Option (ARes × Hp)), xtr (.rv (.tuple [x, I 0])) 1 K = K (.rv (I 0)) := fun K => rfl
  have hm : [AV.agg ((smallRV 3).map .rv)].mapM (toRV [] depthA) = some [.agg (smallRV 3)] := by
    simp [toRV, depthA, smallRV]
  have hr : toRV [(⟨0, 1, [ai 0]⟩ : Ob)] depthA (.sl 0 0 0 1) = some (.ros (ints [0]) 1) := rfl
  unfold F_w13_wakes
  rw [List.map_nil, w13_wakes_eq, callP_ret (by simp [toRV, depthA]) (Small_spec 3) (.inl rfl), h1, h2, h3, callP_ret hm e (.inl (by rfl)), h4, h5, asInt_i, callP_ret (by simp [toRV, depthA]) (num_spec 0) (.inr rfl), asInt_i, bsp_of (by rfl), bsl_one rfl]
  rw [callP_ret (rs := [x, .ros (ints [0]) 1]) (by simp [toRV, depthA, ints]) (EqNumbers_spec hx (isInts_of [0] (by simp))) (.inr rfl), asBool_b, w13_wakes_p15_eq]
  rfl
end Go.Proofs.Ytknphnmhjmejaaa
