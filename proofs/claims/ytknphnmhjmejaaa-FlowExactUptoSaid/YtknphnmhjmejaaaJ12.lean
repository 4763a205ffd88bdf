/- Joined texts: Hh, Fd, Fc, Hi, Dom, Da, Db, Dc, Dd, De, Df. No conditions but those of each. -/
import Derived.Test.YtknphnmhjmejaaaJ11
import Derived.Test.YtknphnmhjmejaaaJ8
import Derived.Test.YtknphnmhjmejaaaJ10
import Derived.Test.YtknphnmhjmejaaaJ9
/-  Whether a block is reached from another one; that the smallest program wakes. No conditions. -/
namespace Go.Proofs.Ytknphnmhjmejaaa
set_option linter.unusedVariables false
section
variable {p r v b : RV} {d : Cd} {s : Nat} {oc os ol : Nat} {k' : Nat}
def RchPost (bs : List Blk) (s to : Nat) (o : Option (ARes × Hp)) : Prop := ∃ (h' : Hp) (q : Bool), o = some (.ret (ab q), h') ∧ (q = true ↔ Rch bs (-1) s to)
theorem reaches_inner (hd : IsCd [p, r, v, b] d) (hsh : d.blocks.length < 17592186044415) (hok : okSuccs d.blocks) (to k N M M' i x : Nat) {bx : Blk} {sv : RV} (hbx : d.blocks[x]? = some bx) (hsv : IsInts sv bx.succs)
    (outer : ∀ seen list vl h, RH h oc os ol vl [.rv p, .rv r, .rv v, .rv b] seen list → BI d.blocks (-1) s seen list (i + 1) 0 → RchPost d.blocks s to (w13_reaches_l500 k N M to (.ptr oc 0 0) (.sl os 0 0 d.blocks.length) (.sl ol vl 0 list.length) ((i + 1 : Nat) : Int) h)) :
    ∀ (m j N' : Nat) (seen : List Bool) (list : List Nat) (vl : Nat) (h : Hp), j + m = bx.succs.length → m < N' → list[i]? = some x → RH h oc os ol vl [.rv p, .rv r, .rv v, .rv b] seen list → BI d.blocks (-1) s seen list i j →
      RchPost d.blocks s to (w13_reaches_l64076 k N M N' M' to (.ptr oc 0 0) (.sl os 0 0 d.blocks.length) (.sl ol vl 0 list.length) i (.rv sv) j h) := by
  intro m
  induction m with
  | zero =>
    intro j N' seen list vl h hj hN hx hh hi
    obtain ⟨N', rfl⟩ : ∃ q, N' = q + 1 := ⟨N' - 1, by omega⟩
    have hb := hi.bound
    have hil := (List.getElem?_eq_some_iff.1 hx).1
    rw [w13_reaches_l64076_eq, hsv.len, bsp_not (decide_eq_false (by omega)), w13_reaches_p2003_eq, wri_succ (by omega)]
    exact outer seen list vl h hh (hi.next hx hbx (by omega))
  | succ m ih =>
    intro j N' seen list vl h hj hN hx hh hi
    obtain ⟨N', rfl⟩ : ∃ q, N' = q + 1 := ⟨N' - 1, by omega⟩
    have hjl : j < bx.succs.length := by omega
    have hss := hsv.short
    have hbd := hi.bound
    obtain ⟨n, hn, hnl⟩ := hok x bx hbx bx.succs[j] (List.getElem_mem hjl)
    have hsj : bx.succs[j]? = some (n : Int) := by rw [List.getElem?_eq_getElem hjl, hn]
    have hsn : ∃ q, seen[n]? = some q := ⟨seen[n]'(by rw [hi.len]; exact hnl), List.getElem?_eq_getElem _⟩
    obtain ⟨q, hq⟩ := hsn
    rw [w13_reaches_l64076_eq, hsv.len, bsp_of (decide_eq_true (by omega)), hsv.at hjl, hn, sl_at hnl, ldb_at (b := q) hh.s (by simp [hq])]
    cases q with
    | true =>
      rw [bsp_not (by rfl), w13_reaches_p256307_eq, wri_succ (by omega)]
      exact ih (j + 1) N' seen list vl h (by omega) (by omega) hx hh (hi.skip hx hbx hsj (.inr hq))
    | false =>
      rw [bsp_of (by rfl), hsv.at hjl, hn, sl_at hnl, stv_at hh.s (by simp; rw [hi.len]; exact hnl) rfl rfl, hsv.at hjl, hn, bsl_one rfl]
      rw [apn_one (get_set_ne hh.sl hh.l) (by simp) (by omega) rfl, w13_reaches_p256307_eq, wri_succ (by omega)]
      have := ih (j + 1) N' (seen.set n true) (list ++ [n]) (vl + 1) _ (by omega) (by omega) (by rw [List.getElem?_append_left (List.getElem?_eq_some_iff.1 hx).1]; exact hx) (hh.push n) (hi.push hx hbx hsj (by omega) hq)
      rw [List.length_append] at this
      exact this
theorem reaches_outer (hd : IsCd [p, r, v, b] d) (hsh : d.blocks.length < 17592186044415) (hok : okSuccs d.blocks) (hk : d.blocks.length + 140737488355330 < k') (to M : Nat) (hto : to < d.blocks.length) :
    ∀ (m i N : Nat) (seen : List Bool) (list : List Nat) (vl : Nat) (h : Hp), i + m = d.blocks.length → m < N → RH h oc os ol vl [.rv p, .rv r, .rv v, .rv b] seen list → BI d.blocks (-1) s seen list i 0 →
      RchPost d.blocks s to (w13_reaches_l500 k' N M to (.ptr oc 0 0) (.sl os 0 0 d.blocks.length) (.sl ol vl 0 list.length) i h) := by
  have fin : ∀ (i N : Nat) (seen : List Bool) (list : List Nat) (vl : Nat) (h : Hp), list.length ≤ i → 0 < N → RH h oc os ol vl [.rv p, .rv r, .rv v, .rv b] seen list → BI d.blocks (-1) s seen list i 0 →
      RchPost d.blocks s to (w13_reaches_l500 k' N M to (.ptr oc 0 0) (.sl os 0 0 d.blocks.length) (.sl ol vl 0 list.length) i h) := by
    intro i N seen list vl h hi hN hh hb
    obtain ⟨N, rfl⟩ : ∃ q, N = q + 1 := ⟨N - 1, by omega⟩
    obtain ⟨q, hq⟩ : ∃ q, seen[to]? = some q := ⟨_, List.getElem?_eq_getElem (by rw [hb.len]; exact hto)⟩
    rw [w13_reaches_l500_eq, sl_len, bsp_not (decide_eq_false (by omega)), w13_reaches_p63_eq, sl_at hto, ldb_at (b := q) hh.s (by simp [hq])]
    refine ⟨h, q, rfl, ?_⟩
    rw [← hb.fin hi, hq]
    simp
  intro m
  induction m with
  | zero =>
    intro i N seen list vl h hi hN hh hb
    exact fin i N seen list vl h (by have := hb.bound; omega) hN hh hb
  | succ m ih =>
    intro i N seen list vl h hi hN hh hbi
    by_cases hl : list.length ≤ i
    · exact fin i N seen list vl h hl (by omega) hh hbi
    · obtain ⟨N, rfl⟩ : ∃ q, N = q + 1 := ⟨N - 1, by omega⟩
      have hil : i < list.length := by omega
      have hd' := hd
      obtain ⟨p, r, v, b, e, _, _, _, hb⟩ := hd
      cases e
      have hxl : list[i] < d.blocks.length := hbi.lt (List.getElem_mem hil)
      obtain ⟨a, q, t, u, rest, k1, k2, k3, k4, hx⟩ := blk_at (R := ARes × Hp) hb hxl
      rw [w13_reaches_l500_eq, sl_len, bsp_of (decide_eq_true (by omega)), pad_ptr, ldv_at hh.c rfl, sl_at hil, ldi_at (n := (list[i] : Nat)) hh.l (by simp [hil]), hx, pad_rop4, ldv_rop]
      exact reaches_inner hd' hsh hok to k' N M _ i list[i] (List.getElem?_eq_getElem hxl) k3 (fun seen' list' vl' h' hh' hb' => ih (i + 1) N seen' list' vl' h' (by omega) (by omega) hh' hb')
        d.blocks[list[i]].succs.length 0 k' seen list vl h (by omega) (by have := k3.short; omega) (List.getElem?_eq_getElem hil) hh hbi
theorem reaches_spec {cs : List RV} (hd : IsCd cs d) (hsh : d.blocks.length ≤ 4096) (hok : okSuccs d.blocks) {s to : Nat} (hs : s < d.blocks.length) (hto : to < d.blocks.length) :
    ∃ q, F_w13_reaches [.agg cs, I s, I to] = some (.ret (.bool q)) ∧ (q = true ↔ Rch d.blocks (-1) s to) := by
  have hd' := hd
  obtain ⟨p, r, v, b, rfl, _, _, _, hb⟩ := hd
  have ho : ([⟨0, 1, [.rv p, .rv r, .rv v, .rv b]⟩] : Hp)[0]? = some ⟨0, 1, [.rv p, .rv r, .rv v, .rv b]⟩ := rfl
  have hz : ∀ n : Nat, zrep [ab false] n = (List.replicate n false).map ab := by
    intro n; simp [zrep]
  obtain ⟨h1, eh1⟩ : ∃ h1 : Hp, h1 = [⟨0, 1, [.rv p, .rv r, .rv v, .rv b]⟩] ++ [⟨0, 1, zrep [ab false] d.blocks.length⟩] := ⟨_, rfl⟩
  have hc0 : h1[0]? = some ⟨0, 1, [.rv p, .rv r, .rv v, .rv b]⟩ := by rw [eh1]; rfl
  have hs0 : h1[1]? = some ⟨0, 1, (List.replicate d.blocks.length false).map ab⟩ := by rw [eh1, hz]; rfl
  have hl1 : ([⟨0, 1, [.rv p, .rv r, .rv v, .rv b]⟩] : Hp).length = 1 := rfl
  unfold F_w13_reaches
  rw [List.map_cons, List.map_cons, List.map_cons, List.map_nil, w13_reaches_eq, box_agg, List.nil_append, List.length_nil, show List.map AV.rv [p, r, v, b] = [.rv p, .rv r, .rv v, .rv b] from rfl,
    pad_ptr, ldv_at ho rfl, hb.len, mks_one (by omega) (by omega), hl1, ← eh1, sl_at hs, stv_at hs0 (by simp; exact hs) rfl rfl, bsl_one rfl, List.length_set]
  obtain ⟨h', q, e, hq⟩ := reaches_outer (s := s) (k' := big) hd' (by omega) hok (by rw [big_val]; omega) to
    (h1.set 1 ⟨0, 1, ((List.replicate d.blocks.length false).map ab).set s (ab true)⟩ ++ [(⟨0, 1, [an' s]⟩ : Ob)]).length hto d.blocks.length 0 big _ [s] 0 _ (by omega) (by rw [big_val]; omega) (RH.init hc0 hs0 (by omega) s) (BI.init hs)
  refine ⟨q, ?_, hq⟩
  rw [show (([s] : List Nat).length) = 1 from rfl] at e
  rw [show ((0 : Int)) = ((0 : Nat) : Int) from rfl, e]
  simp [pureR, toRV, depthA]
end
/-! ### The smallest program -/
def smallCd (n : Int) : Cd := ⟨[], [5], [⟨9, 12, [], 0, 0⟩, ⟨1, 5, [], n, 0⟩], [⟨3, 0, [1, 0], [], [], [0, 1]⟩]⟩
def smallRV (n : Int) : List RV := [.nils, .ros [I 5] 1, .ros [I 9, I 12, .nils, I 0, I 0, I 1, I 5, .nils, I n, I 0] 2, .ros [I 3, I 0, .ros [I 1, I 0] 2, .nils, .nils, .ros [I 0, I 1] 2] 1]
theorem Small_spec (n : Int) : F_w12_Small [I n] = some (.ret (.agg [.ros (smallRV n) 1, .nils])) := by
  unfold F_w12_Small
  rw [List.map_cons, List.map_nil, w12_Small_eq]
  rfl
theorem isInts_of (xs : List Int) (h : xs.length < 1000000000) : IsInts (.ros (ints xs) xs.length) xs := .mk xs h
theorem small_isCd (n : Int) : IsCd (smallRV n) (smallCd n) := by
  refine ⟨_, _, _, _, rfl, .nil, isInts_of [5] (by simp), ?_, ?_⟩
  · exact .mk (n := 5) (Q := IsVl) (l := (smallCd n).values) (.cons (c := [I 9, I 12, .nils, I 0, I 0]) rfl ⟨.nils, rfl, .nil⟩ (.cons (c := [I 1, I 5, .nils, I n, I 0]) rfl ⟨.nils, rfl, .nil⟩ .nil)) (by simp [smallCd])
  · exact .mk (n := 6) (Q := IsBlk) (l := (smallCd n).blocks) (.cons (c := [I 3, I 0, .ros [I 1, I 0] 2, .nils, .nils, .ros [I 0, I 1] 2]) rfl ⟨_, _, _, _, rfl, isInts_of [1, 0] (by simp), .nil, .nil, isInts_of [0, 1] (by simp)⟩ .nil) (by simp [smallCd])
theorem small_form (n : Int) : formOk (smallCd n).blocks = true := rfl
theorem small_flow (n : Int) : FlowOk (smallCd n).blocks := by
  have h0 : ∀ (i : Nat) (b : Blk), (smallCd n).blocks[i]? = some b → i = 0 ∧ b = ⟨3, 0, [1, 0], [], [], [0, 1]⟩ := by
    intro i b hb
    simp only [smallCd] at hb
    cases i with
    | zero => simp at hb; exact ⟨rfl, hb.symm⟩
    | succ i => simp at hb
  refine ⟨fun b hb => ?_, fun i b hb hk => ?_, fun i b hb hk => ?_⟩
  · obtain ⟨_, rfl⟩ := h0 0 b hb; simp
  · obtain ⟨rfl, rfl⟩ := h0 i b hb; simp [succsOf]
  · obtain ⟨rfl, rfl⟩ := h0 i b hb; exact .start
theorem small_post (n : Int) : IsPost (smallCd n).blocks [0] := ⟨[0], .go (by simp) (.nil _ _) (.nil _ _)⟩
theorem num_spec (n : Int) : F_w13_num [I n] = some (.ret (I n)) := by
  unfold F_w13_num
  rw [List.map_cons, List.map_nil, w13_num_eq]
  rfl
theorem wakes_spec : F_w13_wakes [] = some (.ret (.bool true)) := by
  obtain ⟨x, e, hx⟩ := Post_spec (small_isCd 3) (small_form 3) (small_flow 3) (small_post 3)
  have h1 : ∀ (K : AV → Option (ARes × Hp)), fldA 1 0 true (.rv (.agg [.ros (smallRV 3) 1, .nils])) K = K (.rv (.ros (smallRV 3) 1)) := fun K => rfl
  have h2 : ∀ (K : AV → Option (ARes × Hp)), ixa 4 (.rv (.ros (smallRV 3) 1)) 0 K = K (.rv (.rop (smallRV 3))) := fun K => rfl
  have h3 : ∀ (K : AV → Option (ARes × Hp)), ldg 4 [] (.rv (.rop (smallRV 3))) K = K (.agg ((smallRV 3).map .rv)) := fun K => rfl
  have h4 : ∀ (K : AV → Option (ARes × Hp)), xtr (.rv (.tuple [x, I 0])) 0 K = K (.rv x) := fun K => rfl
  have h5 : ∀ (K : AV → Option (ARes × Hp)), xtr (.rv (.tuple [x, I 0])) 1 K = K (.rv (I 0)) := fun K => rfl
  have hm : [AV.agg ((smallRV 3).map .rv)].mapM (toRV [] depthA) = some [.agg (smallRV 3)] := by
    simp [toRV, depthA, smallRV]
  have hr : toRV [(⟨0, 1, [ai 0]⟩ : Ob)] depthA (.sl 0 0 0 1) = some (.ros (ints [0]) 1) := rfl
  unfold F_w13_wakes
  rw [List.map_nil, w13_wakes_eq, callP_ret (by simp [toRV, depthA]) (Small_spec 3) (.inl rfl), h1, h2, h3, callP_ret hm e (.inl (by rfl)), h4, h5, asInt_i, callP_ret (by simp [toRV, depthA]) (num_spec 0) (.inr rfl), asInt_i, bsp_of (by rfl), bsl_one rfl]
  rw [callP_ret (rs := [x, .ros (ints [0]) 1]) (by simp [toRV, depthA, ints]) (EqNumbers_spec hx (isInts_of [0] (by simp))) (.inr rfl), asBool_b, w13_wakes_p15_eq]
  rfl
end Go.Proofs.Ytknphnmhjmejaaa
/-  What the flow's weighing tells: some number. No conditions. -/
namespace Go.Proofs.Ytknphnmhjmejaaa
set_option linter.unusedVariables false
def NumPost (o : Option (ARes × Hp)) : Prop := ∃ n h', o = some (.ret (ai n), h')
/-- A program in SSA form. -/
structure Ut where
  codes : List Cd
  bytes : Nat
def IsUt (c : List RV) (u : Ut) : Prop := ∃ p q, c = [p, q] ∧ IsRows 4 IsCd p u.codes ∧ (q = .nils ∧ u.bytes = 0 ∨ ∃ bs, q = .ros bs u.bytes)
theorem IsUt.bytes_len {R : Type} {q : RV} {n : Nat} (k : q = .nils ∧ n = 0 ∨ ∃ bs, q = .ros bs n) (K : Int → Option R) : lna (.rv q) K = K n := by
  rcases k with ⟨rfl, rfl⟩ | ⟨bs, rfl⟩ <;> rfl
theorem cd_at {R : Type} {l : RV} {ds : List Cd} (k : IsRows 4 IsCd l ds) {i : Nat} (hi : i < ds.length) : ∃ p r v b rest, IsInts p ds[i].params ∧ IsInts r ds[i].results ∧ IsRows 5 IsVl v ds[i].values ∧ IsRows 6 IsBlk b ds[i].blocks ∧
    ∀ (K : AV → Option R), ixa 4 (.rv l) i K = K (.rv (.rop (p :: r :: v :: b :: rest))) := by
  obtain ⟨c, rest, _, ⟨p, r, v, b, rfl, h1, h2, h3, h4⟩, hx⟩ := k.at hi
  exact ⟨p, r, v, b, rest, h1, h2, h3, h4, hx⟩
theorem ldg4 {R : Type} {h : Hp} {a b c d : RV} {rest : List RV} (K : AV → Option R) : ldg 4 h (.rv (.rop (a :: b :: c :: d :: rest))) K = K (.agg [.rv a, .rv b, .rv c, .rv d]) := rfl
section
variable {p r v b : RV} {d : Cd} {ou o : Nat} {uc : List AV} {P : RV} {ds : List Cd}
theorem Weight_blocks (hb : IsRows 6 IsBlk b d.blocks) (k N M M' : Nat) (x1 : Int) (i : Nat) (hi : i < 1000000000)
    (outer : ∀ n h, h[ou]? = some ⟨0, 1, uc⟩ → NumPost (w12_Weight_l116 k N M x1 (.ptr ou 0 0) n ((i + 1 : Nat) : Int) h)) :
    ∀ (m j N' : Nat) (n : Int) (h : Hp), j + m = d.blocks.length → m < N' → h[ou]? = some ⟨0, 1, uc⟩ → h[o]? = some ⟨0, 1, [.rv p, .rv r, .rv v, .rv b]⟩ →
      NumPost (w12_Weight_l59708 k N M N' M' x1 (.ptr ou 0 0) n i (.ptr o 0 0) j h) := by
  have hs := hb.short
  have out : ∀ N' n h x9, h[ou]? = some ⟨0, 1, uc⟩ → NumPost (w12_Weight_p238833 k N M N' M' x1 (.ptr ou 0 0) n i (.ptr o 0 0) x9 false h) := by
    intro N' n h x9 hu
    rw [w12_Weight_p238833_eq, bsp_not rfl, w12_Weight_p467_eq, wri_succ (by omega)]
    exact outer n h hu
  intro m
  induction m with
  | zero =>
    intro j N' n h hj hN hu ho
    obtain ⟨N', rfl⟩ : ∃ q, N' = q + 1 := ⟨N' - 1, by omega⟩
    rw [w12_Weight_l59708_eq, pad_ptr, ldv_at ho rfl, hb.len, bsp_not (decide_eq_false (by omega))]
    exact out _ _ _ _ hu
  | succ m ih =>
    intro j N' n h hj hN hu ho
    obtain ⟨N', rfl⟩ : ∃ q, N' = q + 1 := ⟨N' - 1, by omega⟩
    have hlt : j < d.blocks.length := by omega
    obtain ⟨a, q, s, t, rest, k1, k2, k3, k4, hx⟩ := blk_at (R := ARes × Hp) hb hlt
    rw [w12_Weight_l59708_eq, pad_ptr, ldv_at ho rfl, hb.len, bsp_of (decide_eq_true (by omega))]
    by_cases hn : n ≤ x1
    · rw [w12_Weight_p238833_eq, bsp_of (decide_eq_true hn), pad_ptr, ldv_at ho rfl, hx, ldg6, var_agg (n := 6) (by rfl) (by rfl) (by simp [k1.one, k2.one, k3.one, k4.one, oneI])]
      have hp := get_new (h := h) ⟨0, 1, [.rv (I d.blocks[j].kind), .rv (I d.blocks[j].n), .rv a, .rv q, .rv s, .rv t]⟩
      rw [pad_ptr, ldv_at hp rfl, k1.len, pad_ptr, ldv_at hp rfl, k2.len, pad_ptr, ldv_at hp rfl, k3.len, pad_ptr, ldv_at hp rfl, k4.len, wri_succ (by omega)]
      exact ih (j + 1) N' _ _ (by omega) (by omega) (get_old hu _) (get_old ho _)
    · rw [decide_eq_false hn]
      exact out _ _ _ _ hu
theorem Weight_values (hv : IsRows 5 IsVl v d.values) (hb : IsRows 6 IsBlk b d.blocks) (k N M M' : Nat) (hk : 1000000000 < k) (x1 : Int) (i : Nat) (hi : i < 1000000000)
    (outer : ∀ n h, h[ou]? = some ⟨0, 1, uc⟩ → NumPost (w12_Weight_l116 k N M x1 (.ptr ou 0 0) n ((i + 1 : Nat) : Int) h)) :
    ∀ (m j N' : Nat) (n : Int) (h : Hp), j + m = d.values.length → m < N' → h[ou]? = some ⟨0, 1, uc⟩ → h[o]? = some ⟨0, 1, [.rv p, .rv r, .rv v, .rv b]⟩ →
      NumPost (w12_Weight_l59700 k N M N' M' x1 (.ptr ou 0 0) n i (.ptr o 0 0) j h) := by
  have hs := hv.short
  have hs' := hb.short
  have out : ∀ N' n h x9, h[ou]? = some ⟨0, 1, uc⟩ → h[o]? = some ⟨0, 1, [.rv p, .rv r, .rv v, .rv b]⟩ → NumPost (w12_Weight_p238801 k N M N' M' x1 (.ptr ou 0 0) n i (.ptr o 0 0) x9 false h) := by
    intro N' n h x9 hu ho
    rw [w12_Weight_p238801_eq, bsp_not rfl, w12_Weight_p7463_eq]
    exact Weight_blocks hb k N M _ x1 i hi outer d.blocks.length 0 k n h (by omega) (by omega) hu ho
  intro m
  induction m with
  | zero =>
    intro j N' n h hj hN hu ho
    obtain ⟨N', rfl⟩ : ∃ q, N' = q + 1 := ⟨N' - 1, by omega⟩
    rw [w12_Weight_l59700_eq, pad_ptr, ldv_at ho rfl, hv.len, bsp_not (decide_eq_false (by omega))]
    exact out _ _ _ _ hu ho
  | succ m ih =>
    intro j N' n h hj hN hu ho
    obtain ⟨N', rfl⟩ : ∃ q, N' = q + 1 := ⟨N' - 1, by omega⟩
    have hlt : j < d.values.length := by omega
    obtain ⟨a, rest, k1, hx⟩ := vl_at (R := ARes × Hp) hv hlt
    rw [w12_Weight_l59700_eq, pad_ptr, ldv_at ho rfl, hv.len, bsp_of (decide_eq_true (by omega))]
    by_cases hn : n ≤ x1
    · rw [w12_Weight_p238801_eq, bsp_of (decide_eq_true hn), pad_ptr, ldv_at ho rfl, hx, pad_rop, List.drop, List.drop, List.drop, ldv_rop, k1.len, wri_succ (by omega)]
      exact ih (j + 1) N' _ _ (by omega) (by omega) hu ho
    · rw [decide_eq_false hn]
      exact out _ _ _ _ hu ho
end
theorem Weight_outer {P Q : RV} {ds : List Cd} {ou : Nat} (hp : IsRows 4 IsCd P ds) (k M : Nat) (hk : 1000000000 < k) (x1 : Int) : ∀ (m i N : Nat) (n : Int) (h : Hp), i + m = ds.length → m < N → h[ou]? = some ⟨0, 1, [.rv P, .rv Q]⟩ →
    NumPost (w12_Weight_l116 k N M x1 (.ptr ou 0 0) n i h) := by
  have hs := hp.short
  have out : ∀ N n h x9, NumPost (w12_Weight_p465 k N M x1 (.ptr ou 0 0) n x9 false h) := by
    intro N n h x9
    rw [w12_Weight_p465_eq, bsp_not rfl, w12_Weight_p15_eq]
    exact ⟨_, _, rfl⟩
  intro m
  induction m with
  | zero =>
    intro i N n h hi hN ho
    obtain ⟨N, rfl⟩ : ∃ q, N = q + 1 := ⟨N - 1, by omega⟩
    rw [w12_Weight_l116_eq, pad_ptr, ldv_at ho rfl, hp.len, bsp_not (decide_eq_false (by omega))]
    exact out _ _ _ _
  | succ m ih =>
    intro i N n h hi hN ho
    obtain ⟨N, rfl⟩ : ∃ q, N = q + 1 := ⟨N - 1, by omega⟩
    have hlt : i < ds.length := by omega
    obtain ⟨p, r, v, b, rest, k1, k2, k3, k4, hx⟩ := cd_at (R := ARes × Hp) hp hlt
    rw [w12_Weight_l116_eq, pad_ptr, ldv_at ho rfl, hp.len, bsp_of (decide_eq_true (by omega))]
    by_cases hn : n ≤ x1
    · rw [w12_Weight_p465_eq, bsp_of (decide_eq_true hn), pad_ptr, ldv_at ho rfl, hx, ldg4, var_agg (n := 4) (by rfl) (by rfl) (by simp [k1.one, k2.one, k3.one, k4.one])]
      have hc := get_new (h := h) ⟨0, 1, [.rv p, .rv r, .rv v, .rv b]⟩
      rw [pad_ptr, ldv_at hc rfl, k1.len, pad_ptr, ldv_at hc rfl, k2.len]
      have hs3 := k3.short
      exact Weight_values k3 k4 k N M _ hk x1 i (by omega) (fun n h hu => ih (i + 1) N n h (by omega) (by omega) hu) ds[i].values.length 0 k _ _ (by omega) (by omega) (get_old ho _) hc
    · rw [decide_eq_false hn]
      exact out _ _ _ _
theorem Weight_spec {cs : List RV} {u : Ut} (hu : IsUt cs u) (m : Int) : ∃ n, F_w12_Weight [.agg cs, I m] = some (.ret (I n)) := by
  obtain ⟨P, Q, rfl, hp, hq⟩ := hu
  have hs := hp.short
  have ho : ([⟨0, 1, [.rv P, .rv Q]⟩] : Hp)[0]? = some ⟨0, 1, [.rv P, .rv Q]⟩ := rfl
  unfold F_w12_Weight
  rw [List.map_cons, List.map_cons, List.map_nil, w12_Weight_eq, box_agg, List.nil_append, List.length_nil, show List.map AV.rv [P, Q] = [.rv P, .rv Q] from rfl, pad_ptr, ldv_at ho rfl, hp.len, pad_ptr, ldv_at ho rfl, IsUt.bytes_len hq, show ((0 : Int)) = ((0 : Nat) : Int) from rfl]
  obtain ⟨n, h', e⟩ := Weight_outer hp big ([⟨0, 1, [.rv P, .rv Q]⟩] : Hp).length (by rw [big_val]; omega) m u.codes.length 0 big (wri .i64 (u.codes.length + wri .i64 (Int.tdiv u.bytes 64))) _ (by omega) (by rw [big_val]; omega) ho
  rw [e]
  exact ⟨n, by simp [pureR, toRV, depthA]⟩
end Go.Proofs.Ytknphnmhjmejaaa
/-  What the flow's copies tell. No conditions. -/
namespace Go.Proofs.Ytknphnmhjmejaaa
set_option linter.unusedVariables false
theorem CopyValue_spec {cs : List RV} {v : Vl} (hv : IsVl cs v) : ∃ cs', F_r0_CopyValue [.agg cs] = some (.ret (.agg cs')) ∧ IsVl cs' v := by
  obtain ⟨a, rfl, ha⟩ := hv
  obtain ⟨r, e, hr⟩ := CopyNumbers_spec ha
  refine ⟨[I v.op, I v.kind, r, I v.n, I v.m], ?_, r, rfl, hr⟩
  unfold F_r0_CopyValue
  rw [List.map_cons, List.map_nil, r0_CopyValue_eq, box_agg, nwc_some, ldg_at (by rfl) (by rfl), var_agg (n := 5) (by rfl) (by rfl) (by simp [ha.one, oneI]), pad_ptr, ldv_at (by rfl) (by rfl),
    callP_ret (by simp [toRV, depthA]) e (.inl rfl), pad_ptr, stv_at (by rfl) (by simp) hr.one hr.cells, ldg_at (by rfl) (by rfl), stv_whole (by rfl) (by rfl) (by rfl) (by simp [hr.one, oneI]), fin_agg (by rfl) (by rfl)]
  rfl
theorem CopyBlock_spec {cs : List RV} {b : Blk} (hb : IsBlk cs b) : ∃ cs', F_r0_CopyBlock [.agg cs] = some (.ret (.agg cs')) ∧ IsBlk cs' b := by
  obtain ⟨a, p, s, t, rfl, ha, hp, hs, ht⟩ := hb
  obtain ⟨a', e1, ha'⟩ := CopyNumbers_spec ha
  obtain ⟨p', e2, hp'⟩ := CopyNumbers_spec hp
  obtain ⟨s', e3, hs'⟩ := CopyNumbers_spec hs
  obtain ⟨t', e4, ht'⟩ := CopyNumbers_spec ht
  refine ⟨[I b.kind, I b.n, a', p', s', t'], ?_, a', p', s', t', rfl, ha', hp', hs', ht'⟩
  unfold F_r0_CopyBlock
  rw [List.map_cons, List.map_nil, r0_CopyBlock_eq, box_agg, nwc_some, ldg_at (by rfl) (by rfl), var_agg (n := 6) (by rfl) (by rfl) (by simp [ha.one, hp.one, hs.one, ht.one, oneI]), pad_ptr, ldv_at (by rfl) (by rfl),
    callP_ret (by simp [toRV, depthA]) e1 (.inl rfl), pad_ptr, stv_at (by rfl) (by simp) ha'.one ha'.cells, pad_ptr, ldv_at (by rfl) (by rfl),
    callP_ret (by simp [toRV, depthA]) e2 (.inl rfl), pad_ptr, stv_at (by rfl) (by simp) hp'.one hp'.cells, pad_ptr, ldv_at (by rfl) (by rfl),
    callP_ret (by simp [toRV, depthA]) e3 (.inl rfl), pad_ptr, stv_at (by rfl) (by simp) hs'.one hs'.cells, pad_ptr, ldv_at (by rfl) (by rfl),
    callP_ret (by simp [toRV, depthA]) e4 (.inl rfl), pad_ptr, stv_at (by rfl) (by simp) ht'.one ht'.cells,
    ldg_at (by rfl) (by rfl), stv_whole (by rfl) (by rfl) (by rfl) (by simp [ha'.one, hp'.one, hs'.one, ht'.one, oneI]), fin_agg (by rfl) (by rfl)]
  rfl
theorem IsVl.len {c : List RV} {v : Vl} (k : IsVl c v) : c.length = 5 ∧ (c.map AV.rv).all oneA = true := by
  obtain ⟨a, rfl, ha⟩ := k
  exact ⟨rfl, by simp [ha.one, oneI]⟩
theorem IsBlk.len {c : List RV} {b : Blk} (k : IsBlk c b) : c.length = 6 ∧ (c.map AV.rv).all oneA = true := by
  obtain ⟨a, p, s, t, rfl, ha, hp, hs, ht⟩ := k
  exact ⟨rfl, by simp [ha.one, hp.one, hs.one, ht.one, oneI]⟩
theorem CopyValues_loop {x : RV} {vs : List Vl} (hx : IsRows 5 IsVl x vs) (k M : Nat) : ∀ (m i N : Nat) (h : Hp) (y : AV), i + m = vs.length → m < N → RowsAt 5 IsVl h y (vs.take i) →
    ∃ w h', r0_CopyValues_l116 k N M (.rv x) y i h = some (.ret w, h') ∧ RowsAt 5 IsVl h' w vs := by
  have hs := hx.short
  intro m
  induction m with
  | zero =>
    intro i N h y hi hN hy
    obtain ⟨N, rfl⟩ : ∃ N', N = N' + 1 := ⟨N - 1, by omega⟩
    rw [r0_CopyValues_l116_eq, hx.len, bsp_not (decide_eq_false (by omega)), r0_CopyValues_p15_eq]
    rw [List.take_of_length_le (by omega)] at hy
    exact ⟨_, _, rfl, hy⟩
  | succ m ih =>
    intro i N h y hi hN hy
    obtain ⟨N, rfl⟩ : ∃ N', N = N' + 1 := ⟨N - 1, by omega⟩
    have hlt : i < vs.length := by omega
    obtain ⟨a, rest, ha, hix⟩ := vl_at (R := ARes × Hp) hx hlt
    obtain ⟨cs', e, hc'⟩ := CopyValue_spec (cs := [I vs[i].op, I vs[i].kind, a, I vs[i].n, I vs[i].m]) (v := vs[i]) ⟨a, rfl, ha⟩
    obtain ⟨w, h3, hK, hw⟩ := hy.push (R := ARes × Hp) (b := 56) (z := [.rv (I 0), .rv (I 0), .rv .nils, .rv (I 0), .rv (I 0)]) (by simp; omega) (by omega) (by omega) rfl hc'.len.1 hc' hc'.len.2
    rw [r0_CopyValues_l116_eq, hx.len, bsp_of (decide_eq_true (by omega)), hix, ldg5, callP_ret (by simp [toRV, depthA]) e (.inl rfl), hK, wri_succ (by omega)]
    refine ih (i + 1) N h3 w (by omega) (by omega) ?_
    rw [List.take_add_one, List.getElem?_eq_getElem hlt]
    exact hw
theorem CopyValues_spec {x : RV} {vs : List Vl} (hx : IsRows 5 IsVl x vs) : ∃ y, F_r0_CopyValues [x] = some (.ret y) ∧ IsRows 5 IsVl y vs := by
  have hs := hx.short
  obtain ⟨w, h', e, hw⟩ := CopyValues_loop hx big ([] : Hp).length vs.length 0 big [] (.rv .nils) (by omega) (by rw [big_val]; omega) .nil
  obtain ⟨y, hy, hr⟩ := hw.done hs
  refine ⟨y, ?_, hr⟩
  unfold F_r0_CopyValues
  rw [List.map_cons, List.map_nil, r0_CopyValues_eq, show ((0 : Int)) = ((0 : Nat) : Int) from rfl, e]
  simp [pureR, hy]
theorem CopyBlocks_loop {x : RV} {vs : List Blk} (hx : IsRows 6 IsBlk x vs) (k M : Nat) : ∀ (m i N : Nat) (h : Hp) (y : AV), i + m = vs.length → m < N → RowsAt 6 IsBlk h y (vs.take i) →
    ∃ w h', r0_CopyBlocks_l116 k N M (.rv x) y i h = some (.ret w, h') ∧ RowsAt 6 IsBlk h' w vs := by
  have hs := hx.short
  intro m
  induction m with
  | zero =>
    intro i N h y hi hN hy
    obtain ⟨N, rfl⟩ : ∃ N', N = N' + 1 := ⟨N - 1, by omega⟩
    rw [r0_CopyBlocks_l116_eq, hx.len, bsp_not (decide_eq_false (by omega)), r0_CopyBlocks_p15_eq]
    rw [List.take_of_length_le (by omega)] at hy
    exact ⟨_, _, rfl, hy⟩
  | succ m ih =>
    intro i N h y hi hN hy
    obtain ⟨N, rfl⟩ : ∃ N', N = N' + 1 := ⟨N - 1, by omega⟩
    have hlt : i < vs.length := by omega
    obtain ⟨a, p, s, t, rest, h1, h2, h3, h4, hix⟩ := blk_at (R := ARes × Hp) hx hlt
    obtain ⟨cs', e, hc'⟩ := CopyBlock_spec (cs := [I vs[i].kind, I vs[i].n, a, p, s, t]) (b := vs[i]) ⟨a, p, s, t, rfl, h1, h2, h3, h4⟩
    obtain ⟨w, h3, hK, hw⟩ := hy.push (R := ARes × Hp) (b := 112) (z := [.rv (I 0), .rv (I 0), .rv .nils, .rv .nils, .rv .nils, .rv .nils]) (by simp; omega) (by omega) (by omega) rfl hc'.len.1 hc' hc'.len.2
    rw [r0_CopyBlocks_l116_eq, hx.len, bsp_of (decide_eq_true (by omega)), hix, ldg6, callP_ret (by simp [toRV, depthA]) e (.inl rfl), hK, wri_succ (by omega)]
    refine ih (i + 1) N h3 w (by omega) (by omega) ?_
    rw [List.take_add_one, List.getElem?_eq_getElem hlt]
    exact hw
theorem CopyBlocks_spec {x : RV} {vs : List Blk} (hx : IsRows 6 IsBlk x vs) : ∃ y, F_r0_CopyBlocks [x] = some (.ret y) ∧ IsRows 6 IsBlk y vs := by
  have hs := hx.short
  obtain ⟨w, h', e, hw⟩ := CopyBlocks_loop hx big ([] : Hp).length vs.length 0 big [] (.rv .nils) (by omega) (by rw [big_val]; omega) .nil
  obtain ⟨y, hy, hr⟩ := hw.done hs
  refine ⟨y, ?_, hr⟩
  unfold F_r0_CopyBlocks
  rw [List.map_cons, List.map_nil, r0_CopyBlocks_eq, show ((0 : Int)) = ((0 : Nat) : Int) from rfl, e]
  simp [pureR, hy]
theorem CopyCode_spec {cs : List RV} {d : Cd} (hd : IsCd cs d) : ∃ cs', F_r0_CopyCode [.agg cs] = some (.ret (.agg cs')) ∧ IsCd cs' d := by
  obtain ⟨p, r, v, b, rfl, hp, hr, hv, hb⟩ := hd
  obtain ⟨p', e1, hp'⟩ := CopyNumbers_spec hp
  obtain ⟨r', e2, hr'⟩ := CopyNumbers_spec hr
  obtain ⟨v', e3, hv'⟩ := CopyValues_spec hv
  obtain ⟨b', e4, hb'⟩ := CopyBlocks_spec hb
  refine ⟨[p', r', v', b'], ?_, p', r', v', b', rfl, hp', hr', hv', hb'⟩
  unfold F_r0_CopyCode
  rw [List.map_cons, List.map_nil, r0_CopyCode_eq, box_agg, nwc_some, ldg_at (by rfl) (by rfl), var_agg (n := 4) (by rfl) (by rfl) (by simp [hp.one, hr.one, hv.one, hb.one]), pad_ptr, ldv_at (by rfl) (by rfl),
    callP_ret (by simp [toRV, depthA]) e1 (.inl rfl), pad_ptr, stv_at (by rfl) (by simp) hp'.one hp'.cells, pad_ptr, ldv_at (by rfl) (by rfl),
    callP_ret (by simp [toRV, depthA]) e2 (.inl rfl), pad_ptr, stv_at (by rfl) (by simp) hr'.one hr'.cells, pad_ptr, ldv_at (by rfl) (by rfl),
    callP_ret (by simp [toRV, depthA]) e3 (.inl rfl), pad_ptr, stv_at (by rfl) (by simp) hv'.one hv'.cells, pad_ptr, ldv_at (by rfl) (by rfl),
    callP_ret (by simp [toRV, depthA]) e4 (.inl rfl), pad_ptr, stv_at (by rfl) (by simp) hb'.one hb'.cells,
    ldg_at (by rfl) (by rfl), stv_whole (by rfl) (by rfl) (by rfl) (by simp [hp'.one, hr'.one, hv'.one, hb'.one]), fin_agg (by rfl) (by rfl)]
  rfl
end Go.Proofs.Ytknphnmhjmejaaa
/-  What the law FlowPost tells: true, whatever the list of codes. No conditions. -/
namespace Go.Proofs.Ytknphnmhjmejaaa
set_option linter.unusedVariables false
/-- It tells that it holds. -/
def TR (o : Option (ARes × Hp)) : Prop := ∃ h, o = some (.ret (ab true), h)
/-- The place of a block in a part of the order; -1: none. -/
def rk (P : List Nat) (k x : Nat) : Int := if x ∈ P.take k then (P.idxOf x : Int) else -1
def rks (P : List Nat) (k n : Nat) : List Int := (List.range n).map (rk P k)
theorem rks_len (P : List Nat) (k n : Nat) : (rks P k n).length = n := by simp [rks]
theorem rks_at {P : List Nat} {k n x : Nat} (hx : x < n) : (rks P k n)[x]? = some (rk P k x) := by
  simp [rks, hx]
theorem idxOf_at {P : List Nat} (hnd : P.Nodup) {k : Nat} (hk : k < P.length) : P.idxOf P[k] = k := List.Nodup.idxOf_getElem hnd k hk
theorem rks_set {P : List Nat} (hnd : P.Nodup) {k n : Nat} (hk : k < P.length) (hn : P[k] < n) : (rks P k n).set P[k] (k : Int) = rks P (k + 1) n := by
  apply List.ext_getElem?
  intro i
  by_cases hi : i < n
  · rw [rks_at hi, List.getElem?_set]
    by_cases e : P[k] = i
    · rw [if_pos e, if_pos (by rw [rks_len]; exact hn)]
      unfold rk
      rw [if_pos (by rw [← e, List.take_add_one, List.getElem?_eq_getElem hk]; exact List.mem_append_right _ (by simp)), ← e, idxOf_at hnd hk]
    · rw [if_neg e, rks_at hi]
      unfold rk
      rw [List.take_add_one, List.getElem?_eq_getElem hk]
      simp only [List.mem_append, Option.toList_some, List.mem_singleton]
      by_cases h : i ∈ P.take k
      · simp [h]
      · have : ¬ i = P[k] := fun h => e h.symm
        simp [h, this]
  · rw [List.getElem?_eq_none (by simp [rks_len]; omega), List.getElem?_eq_none (by rw [rks_len]; omega)]
theorem rk_new {P : List Nat} (hnd : P.Nodup) {k : Nat} (hk : k < P.length) : rk P k P[k] = -1 := by
  unfold rk
  rw [if_neg]
  intro h
  obtain ⟨j, hj, e⟩ := List.getElem_of_mem h
  rw [List.getElem_take] at e
  have hj' : j < k ∧ j < P.length := by rw [List.length_take] at hj; omega
  have := (List.getElem_inj hnd).1 e
  omega
theorem rk_all {P : List Nat} {x : Nat} (hx : x ∈ P) : rk P P.length x = P.idxOf x := by
  unfold rk
  rw [List.take_length, if_pos hx]
theorem IsPost.back {bs : List Blk} {P : List Nat} (hP : IsPost bs P) {x y : Nat} (hx : x ∈ P) (hy : y ∈ sucs bs x) (h : P.idxOf x < P.idxOf y) : Way (sucs bs) y x := by
  have hyP : y ∈ P := (hP.mem y).2 (.step ((hP.mem x).1 hx) hy)
  obtain ⟨S, h1⟩ := hP
  obtain ⟨N, Q, k⟩ := h1.found
  have e : Q = P := by rw [k.p]; rfl
  subst e
  have hnd : Q.Nodup := k.qd
  have hlx : Q.idxOf x < Q.length := List.idxOf_lt_length_iff.2 hx
  have hly : Q.idxOf y < Q.length := List.idxOf_lt_length_iff.2 hyP
  have hsplit : Q = Q.take (Q.idxOf x) ++ x :: Q.drop (Q.idxOf x + 1) := by
    conv => lhs; rw [← List.take_append_drop (Q.idxOf x) Q, List.drop_eq_getElem_cons hlx, List.getElem_idxOf hlx]
  refine k.back _ _ x hsplit y hy ?_
  rw [List.mem_iff_getElem]
  refine ⟨Q.idxOf y - (Q.idxOf x + 1), by simp; omega, ?_⟩
  rw [List.getElem_drop]
  have : Q.idxOf x + 1 + (Q.idxOf y - (Q.idxOf x + 1)) = Q.idxOf y := by omega
  simp only [this]
  exact List.getElem_idxOf hly
theorem IsPost.last {bs : List Blk} {P : List Nat} (hP : IsPost bs P) : ∃ P0, P = P0 ++ [0] := by
  obtain ⟨S, h⟩ := hP
  cases h with
  | seen h => simp at h
  | go _ r1 r2 =>
    obtain ⟨rfl, rfl⟩ := r2.nil_inv
    exact ⟨_, rfl⟩
theorem post_kind {bs : List Blk} {P : List Nat} (hf : formOk bs = true) (hq : FlowOk bs) (hP : IsPost bs P) {x : Nat} {b : Blk} (hb : bs[x]? = some b) : x ∈ P ↔ b.kind ≠ 0 := by
  have hl : 0 < bs.length := by
    simp only [formOk, Bool.and_eq_true, decide_eq_true_eq] at hf
    exact hf.1.1
  have hok := formOk_succs hf
  constructor
  · intro hx
    have w := (hP.mem x).1 hx
    cases w with
    | refl => exact (hq.head b hb).1
    | @step y _ w e =>
      have hyl := w.lt (sucs_lt hok) hl
      rw [sucs_at hyl, List.mem_map] at e
      obtain ⟨n, hn, rfl⟩ := e
      obtain ⟨m, c, rfl, hc, hk⟩ := (blkOk_nums (formOk_mem hf (List.mem_of_getElem? (List.getElem?_eq_getElem hyl)))).2 n hn
      rw [Int.toNat_natCast] at hb
      rw [hb] at hc
      cases hc
      exact hk
  · intro hk
    exact (hP.mem x).2 ((way_rch hok hl).2 (hq.reach x b hb hk))
section
variable {X : RV} {ds : List Cd} {x4 : RV} {P : List Nat} {i : Nat}
theorem cd_read {l : RV} {ds : List Cd} (k : IsRows 4 IsCd l ds) {i : Nat} (hi : i < ds.length) : ∃ p r v b rest, IsCd [p, r, v, b] ds[i] ∧ IsRows 6 IsBlk b ds[i].blocks ∧ ∀ {R : Type} (K : AV → Option R), ixa 4 (.rv l) i K = K (.rv (.rop (p :: r :: v :: b :: rest))) := by
  cases k with
  | nil => simp at hi
  | mk r hl =>
    obtain ⟨c, rest, h1, h2, h3⟩ := r.at hi
    have h4 := h3
    obtain ⟨p, r, v, b, rfl, _, _, _, hb⟩ := h3
    refine ⟨p, r, v, b, rest, h4, hb, fun K => ?_⟩
    have : ((i : Int) < ds.length) := by omega
    simp [ixa, hi, h1]
theorem FP_inner (hX : IsRows 4 IsCd X ds) (hi : i < ds.length) (hf : formOk ds[i].blocks = true) (hq : FlowOk ds[i].blocks) (hP : IsPost ds[i].blocks P) {ro : Nat} (k N M N2 M2 M3 : Nat) (hk : 1000000000 < k) (q : Nat) (c : Int) (hql : q < ds[i].blocks.length) (hqP : q ∈ P) {sv : RV} (hsv : IsInts sv ds[i].blocks[q].succs)
    (outer : ∀ h, h[ro]? = some ⟨0, 1, (rks P P.length ds[i].blocks.length).map ai⟩ → TR (w13_FlowPost_p3448787 k N M N2 M2 (.rv X) i (.rv x4) (.sl ro 0 0 ds[i].blocks.length) c q h)) :
    ∀ (m j N3 : Nat) (h : Hp), j + m = ds[i].blocks[q].succs.length → m < N3 → h[ro]? = some ⟨0, 1, (rks P P.length ds[i].blocks.length).map ai⟩ →
      TR (w13_FlowPost_l220722332 k N M N2 M2 N3 M3 (.rv X) i (.rv x4) (.sl ro 0 0 ds[i].blocks.length) c q (.rv sv) j h) := by
  have hs := hsv.short
  have hok := formOk_succs hf
  have hl : 0 < ds[i].blocks.length ∧ ds[i].blocks.length ≤ 4096 := by
    simp only [formOk, Bool.and_eq_true, decide_eq_true_eq] at hf
    exact hf.1
  intro m
  induction m with
  | zero =>
    intro j N3 h hj hN ho
    obtain ⟨N3, rfl⟩ : ∃ q, N3 = q + 1 := ⟨N3 - 1, by omega⟩
    rw [w13_FlowPost_l220722332_eq, hsv.len, bsp_not (decide_eq_false (by omega))]
    exact outer h ho
  | succ m ih =>
    intro j N3 h hj hN ho
    obtain ⟨N3, rfl⟩ : ∃ q, N3 = q + 1 := ⟨N3 - 1, by omega⟩
    have hjl : j < ds[i].blocks[q].succs.length := by omega
    obtain ⟨y, hy, hyl⟩ := hok q ds[i].blocks[q] (List.getElem?_eq_getElem hql) ds[i].blocks[q].succs[j] (List.getElem_mem hjl)
    have hys : y ∈ sucs ds[i].blocks q := by
      rw [sucs_at hql, List.mem_map]
      exact ⟨_, List.getElem_mem hjl, by rw [hy]; simp⟩
    have hyP : y ∈ P := (hP.mem y).2 (.step ((hP.mem q).1 hqP) hys)
    have next : ∀ h, h[ro]? = some ⟨0, 1, (rks P P.length ds[i].blocks.length).map ai⟩ → TR (w13_FlowPost_p3531557321 k N M N2 M2 N3 M3 (.rv X) i (.rv x4) (.sl ro 0 0 ds[i].blocks.length) c q (.rv sv) j false h) := by
      intro h ho
      rw [w13_FlowPost_p3531557321_eq, bsp_not rfl, wri_succ (by omega)]
      exact ih (j + 1) N3 h (by omega) (by omega) ho
    rw [w13_FlowPost_l220722332_eq, hsv.len, bsp_of (decide_eq_true (by omega)), hsv.at hjl, hy, sl_at hyl, ldi_at (n := (P.idxOf y : Int)) ho (by rw [List.getElem?_map, rks_at hyl, rk_all hyP]; rfl), sl_at hql, ldi_at (n := (P.idxOf q : Int)) ho (by rw [List.getElem?_map, rks_at hql, rk_all hqP]; rfl)]
    by_cases hgt : P.idxOf q < P.idxOf y
    · obtain ⟨p, r, v, b, rest, hcd, _, hix⟩ := cd_read hX hi
      obtain ⟨w, e, hw⟩ := reaches_spec hcd hl.2 hok hyl hql
      have : w = true := hw.2 ((way_rch hok hyl).1 (hP.back hqP hys hgt))
      subst this
      rw [bsp_of (decide_eq_true (by omega)), hix, ldg4, hsv.at hjl, hy, callP_ret (by simp [toRV, depthA]) e (.inr rfl), asBool_b]
      exact next h ho
    · rw [bsp_not (decide_eq_false (by omega))]
      exact next h ho
theorem FP_blocks (hX : IsRows 4 IsCd X ds) (hi : i < ds.length) (hf : formOk ds[i].blocks = true) (hq : FlowOk ds[i].blocks) (hP : IsPost ds[i].blocks P) (hx4 : IsInts x4 (P.map Int.ofNat)) {ro : Nat} (k N M M2 : Nat) (hk : 1000000000 < k)
    (outer : ∀ h, TR (w13_FlowPost_p211 k N M (.rv X) i h)) :
    ∀ (m j N2 : Nat) (h : Hp), j + m = ds[i].blocks.length → m < N2 → h[ro]? = some ⟨0, 1, (rks P P.length ds[i].blocks.length).map ai⟩ →
      TR (w13_FlowPost_l862196 k N M N2 M2 (.rv X) i (.rv x4) (.sl ro 0 0 ds[i].blocks.length) ((ds[i].blocks.take j).countP (fun b => b.kind == 0) : Nat) j h) := by
  have hok := formOk_succs hf
  have hl : 0 < ds[i].blocks.length ∧ ds[i].blocks.length ≤ 4096 := by
    simp only [formOk, Bool.and_eq_true, decide_eq_true_eq] at hf
    exact hf.1
  obtain ⟨hnd, hlt, hple⟩ := hP.facts hok hl.1
  obtain ⟨p, r, v, b, rest, hcd, hb, hix⟩ := cd_read hX hi
  intro m
  induction m with
  | zero =>
    intro j N2 h hj hN ho
    obtain ⟨N2, rfl⟩ : ∃ q, N2 = q + 1 := ⟨N2 - 1, by omega⟩
    obtain ⟨P0, hP0⟩ := hP.last
    have hfp := (flowP_iff hf hP).2 hq
    have hall := hfp.all
    have hpl : P.length = P0.length + 1 := by rw [hP0]; simp
    have e1 : (((P.map Int.ofNat).length : Int) == 0) = false := by rw [beq_eq_false_iff_ne, List.length_map]; omega
    have e2 : P0.length < (P.map Int.ofNat).length := by simp; omega
    have e3 : (P.map Int.ofNat)[P0.length]'e2 = 0 := by
      have : P[P0.length]? = some 0 := by rw [hP0]; simp
      have h2 : (P.map Int.ofNat)[P0.length]? = some 0 := by rw [List.getElem?_map, this]; rfl
      rw [List.getElem?_eq_getElem e2] at h2
      exact Option.some.inj h2
    rw [List.take_of_length_le (by omega), w13_FlowPost_l862196_eq, sl_len, bsp_not (decide_eq_false (by omega)), w13_FlowPost_p107775_eq, hx4.len, sl_len, List.length_map,
      wri_small (n := (P.length : Int) + (ds[i].blocks.countP (fun b => b.kind == 0) : Nat)) (by omega) (by omega), bsp_not (by rw [bne_eq_false_iff_eq]; omega)]
    rw [List.length_map] at e1
    rw [hx4.len, List.length_map, bsp_not e1, hx4.len, List.length_map, wri_small (n := (P.length : Int) - 1) (by omega) (by omega), show (P.length : Int) - 1 = (P0.length : Int) by omega, hx4.at e2, e3, w13_FlowPost_p215551_eq, bsp_not (by rfl)]
    exact outer h
  | succ m ih =>
    intro j N2 h hj hN ho
    obtain ⟨N2, rfl⟩ : ∃ q, N2 = q + 1 := ⟨N2 - 1, by omega⟩
    have hjl : j < ds[i].blocks.length := by omega
    have hle : (ds[i].blocks.take j).countP (fun b => b.kind == 0) ≤ 4096 := Nat.le_trans List.countP_le_length (by simp; omega)
    have hc : (ds[i].blocks.take (j + 1)).countP (fun b => b.kind == 0) = (ds[i].blocks.take j).countP (fun b => b.kind == 0) + if ds[i].blocks[j].kind = 0 then 1 else 0 := by
      rw [List.take_add_one, List.getElem?_eq_getElem hjl, List.countP_append]
      simp [List.countP_cons]
    obtain ⟨a, q, s, t, rest', k1, k2, k3, k4, hbx⟩ := blk_at (R := ARes × Hp) hb hjl
    have hbk : IsBlk [I ds[i].blocks[j].kind, I ds[i].blocks[j].n, a, q, s, t] ds[i].blocks[j] := ⟨a, q, s, t, rfl, k1, k2, k3, k4⟩
    have hs3 := k3.short
    rw [w13_FlowPost_l862196_eq, sl_len, bsp_of (decide_eq_true (by omega)), hix, pad_rop3, ldv_rop, hbx, ldg6, callP_ret (by simp [toRV, depthA]) (Hole_spec hbk) (.inr rfl), asBool_b]
    by_cases h0 : ds[i].blocks[j].kind = 0
    · rw [if_pos h0] at hc
      rw [bsp_of (by simpa using h0), w13_FlowPost_p3448787_eq, wri_succ (by omega), wri_succ (by omega), ← hc]
      exact ih (j + 1) N2 h (by omega) (by omega) ho
    · rw [if_neg h0] at hc
      rw [bsp_not (by simpa using h0), hix, pad_rop3, ldv_rop, hbx, pad_rop4, ldv_rop]
      refine FP_inner hX hi hf hq hP k N M N2 M2 _ hk j _ hjl ((post_kind hf hq hP (List.getElem?_eq_getElem hjl)).2 h0) k3 (fun h ho => ?_) ds[i].blocks[j].succs.length 0 k h (by omega) (by omega) ho
      rw [w13_FlowPost_p3448787_eq, wri_succ (by omega)]
      have := ih (j + 1) N2 h (by omega) (by omega) ho
      rw [hc] at this
      exact this
theorem FP_ranks (hX : IsRows 4 IsCd X ds) (hi : i < ds.length) (hf : formOk ds[i].blocks = true) (hq : FlowOk ds[i].blocks) (hP : IsPost ds[i].blocks P) (hx4 : IsInts x4 (P.map Int.ofNat)) {ro : Nat} (k N M M2 : Nat) (hk : 1000000000 < k)
    (outer : ∀ h, TR (w13_FlowPost_p211 k N M (.rv X) i h)) :
    ∀ (m j N2 : Nat) (h : Hp), j + m = P.length → m < N2 → h[ro]? = some ⟨0, 1, (rks P j ds[i].blocks.length).map ai⟩ →
      TR (w13_FlowPost_l215540 k N M N2 M2 (.rv X) i (.rv x4) (.sl ro 0 0 ds[i].blocks.length) j h) := by
  have hok := formOk_succs hf
  have hl : 0 < ds[i].blocks.length ∧ ds[i].blocks.length ≤ 4096 := by
    simp only [formOk, Bool.and_eq_true, decide_eq_true_eq] at hf
    exact hf.1
  obtain ⟨hnd, hlt, hple⟩ := hP.facts hok hl.1
  obtain ⟨p, r, v, b, rest, hcd, hb, hix⟩ := cd_read hX hi
  intro m
  induction m with
  | zero =>
    intro j N2 h hj hN ho
    obtain ⟨N2, rfl⟩ : ∃ q, N2 = q + 1 := ⟨N2 - 1, by omega⟩
    obtain rfl : j = P.length := by omega
    rw [w13_FlowPost_l215540_eq, hx4.len, List.length_map, bsp_not (decide_eq_false (by omega)), w13_FlowPost_p26943_eq]
    exact FP_blocks hX hi hf hq hP hx4 k N M h.length hk outer ds[i].blocks.length 0 k h (by omega) (by omega) ho
  | succ m ih =>
    intro j N2 h hj hN ho
    obtain ⟨N2, rfl⟩ : ∃ q, N2 = q + 1 := ⟨N2 - 1, by omega⟩
    have hjl : j < P.length := by omega
    have hjl' : j < (P.map Int.ofNat).length := by simpa using hjl
    have hpn : P[j] < ds[i].blocks.length := hlt _ (List.getElem_mem hjl)
    have e1 : (P.map Int.ofNat)[j]'hjl' = ((P[j] : Nat) : Int) := by simp
    obtain ⟨a, q, s, t, rest', k1, k2, k3, k4, hbx⟩ := blk_at (R := ARes × Hp) hb hpn
    have hbk : IsBlk [I ds[i].blocks[P[j]].kind, I ds[i].blocks[P[j]].n, a, q, s, t] ds[i].blocks[P[j]] := ⟨a, q, s, t, rfl, k1, k2, k3, k4⟩
    have hkind := (post_kind hf hq hP (List.getElem?_eq_getElem hpn)).1 (List.getElem_mem hjl)
    rw [w13_FlowPost_l215540_eq, hx4.len, List.length_map, bsp_of (decide_eq_true (by omega)), hx4.at hjl', e1, bsp_not (decide_eq_false (by omega)), hx4.at hjl', e1, sl_len, bsp_not (decide_eq_false (by omega)), hx4.at hjl', e1, sl_at hpn,
      ldi_at (n := -1) ho (by rw [List.getElem?_map, rks_at hpn, rk_new hnd hjl]; rfl), bsp_not (decide_eq_false (by omega)), hix, pad_rop3, ldv_rop, hx4.at hjl', e1, hbx, ldg6, callP_ret (by simp [toRV, depthA]) (Hole_spec hbk) (.inr rfl), asBool_b,
      w13_FlowPost_p6897297_eq, bsp_not (by simpa using hkind), hx4.at hjl', e1, sl_at hpn, stv_at ho (by simp [rks_len]; exact hpn) rfl rfl, wri_succ (by omega)]
    refine ih (j + 1) N2 _ (by omega) (by omega) ?_
    have : ((rks P j ds[i].blocks.length).map ai).set P[j] (ai j) = (rks P (j + 1) ds[i].blocks.length).map ai := by
      rw [← rks_set hnd hjl hpn, List.map_set]
    rw [this]
    exact get_set_eq ho
theorem FP_fill (k N M M2 : Nat) {n : Nat} (hn : n ≤ 4096) {ro : Nat} (outer : ∀ h, h[ro]? = some ⟨0, 1, (List.replicate n (-1)).map ai⟩ → TR (w13_FlowPost_p13471 k N M (.rv X) i (.rv x4) (.sl ro 0 0 n) h)) :
    ∀ (m j N2 : Nat) (h : Hp), j + m = n → m < N2 → h[ro]? = some ⟨0, 1, (List.replicate j (-1) ++ List.replicate m 0).map ai⟩ → TR (w13_FlowPost_l107764 k N M N2 M2 (.rv X) i (.rv x4) (.sl ro 0 0 n) j h) := by
  intro m
  induction m with
  | zero =>
    intro j N2 h hj hN ho
    obtain ⟨N2, rfl⟩ : ∃ q, N2 = q + 1 := ⟨N2 - 1, by omega⟩
    obtain rfl : j = n := by omega
    rw [w13_FlowPost_l107764_eq, sl_len, bsp_not (decide_eq_false (by omega))]
    exact outer h (by simpa using ho)
  | succ m ih =>
    intro j N2 h hj hN ho
    obtain ⟨N2, rfl⟩ : ∃ q, N2 = q + 1 := ⟨N2 - 1, by omega⟩
    rw [w13_FlowPost_l107764_eq, sl_len, bsp_of (decide_eq_true (by omega)), sl_at (by omega), stv_at ho (by simp) rfl rfl, wri_succ (by omega)]
    refine ih (j + 1) N2 _ (by omega) (by omega) ?_
    have : ((List.replicate j (-1 : Int) ++ List.replicate (m + 1) 0).map ai).set j (ai (-1)) = (List.replicate (j + 1) (-1 : Int) ++ List.replicate m 0).map ai := by
      rw [List.map_append, List.set_append_right _ _ (by simp), List.replicate_succ' (n := j)]
      simp [List.replicate_succ]
    rw [this]
    exact get_set_eq ho
theorem FP_outer (hX : IsRows 4 IsCd X ds) (k M : Nat) (hk : 1000000000 < k) : ∀ (m i N : Nat) (h : Hp), i + m = ds.length → m < N → TR (w13_FlowPost_l52 k N M (.rv X) i h) := by
  have hs := hX.short
  have fin : ∀ i N h, TR (w13_FlowPost_p209 k N M (.rv X) i false h) := by
    intro i N h
    rw [w13_FlowPost_p209_eq, bsp_not rfl, w13_FlowPost_p7_eq, callP_ret (by rfl) wakes_spec (.inr rfl), asBool_b]
    exact ⟨h, rfl⟩
  intro m
  induction m with
  | zero =>
    intro i N h hi hN
    obtain ⟨N, rfl⟩ : ∃ q, N = q + 1 := ⟨N - 1, by omega⟩
    rw [w13_FlowPost_l52_eq, hX.len, bsp_not (decide_eq_false (by omega))]
    exact fin i N h
  | succ m ih =>
    intro i N h hi hN
    obtain ⟨N, rfl⟩ : ∃ q, N = q + 1 := ⟨N - 1, by omega⟩
    have hil : i < ds.length := by omega
    rw [w13_FlowPost_l52_eq, hX.len, bsp_of (decide_eq_true (by omega))]
    by_cases h10 : i < 10
    · rw [decide_eq_true (by omega : (i : Int) < 10)]
      obtain ⟨p, r, v, b, rest, hcd, hb, hix⟩ := cd_read hX hil
      have next : ∀ h, TR (w13_FlowPost_p211 k N M (.rv X) i h) := by
        intro h
        rw [w13_FlowPost_p211_eq, wri_succ (by omega)]
        exact ih (i + 1) N h (by omega) (by omega)
      have hone := hcd
      obtain ⟨p, r, v, b, e, c1, c2, c3, c4⟩ := hone
      cases e
      have e1 : ∀ K : AV → Hp → Option (ARes × Hp), bsl 4 1 [.rv .nils, .rv .nils, .rv .nils, .rv .nils] [(some (0, 4), .agg [.rv p, .rv r, .rv v, .rv b])] h K = K (.sl h.length 0 0 1) (h ++ [⟨0, 4, [.rv p, .rv r, .rv v, .rv b]⟩]) := fun K => rfl
      have e2 : ∀ (y : AV) (K : AV → Option (ARes × Hp)), vcells y = some [y] → bld [.rv .nils, .rv .nils] [(some (0, 1), y)] K = K (.agg [y, .rv .nils]) := by
        intro y K hy
        simp [bld, fillA, hy, setAt]
      have hu : IsUt [.ros [p, r, v, b] 1, .nils] ⟨[ds[i]], 0⟩ := ⟨_, _, rfl, .mk (n := 4) (Q := IsCd) (l := [ds[i]]) (.cons (c := [p, r, v, b]) rfl hcd .nil) (by simp), .inl ⟨rfl, rfl⟩⟩
      obtain ⟨w, hw⟩ := Weight_spec hu 2000
      have hr : [AV.agg [.sl h.length 0 0 1, .rv .nils], .rv (.int .i64 2000)].mapM (toRV (h ++ [⟨0, 4, [.rv p, .rv r, .rv v, .rv b]⟩]) depthA) = some [.agg [.ros [p, r, v, b] 1, .nils], I 2000] := by
        simp [depthA, toRV]
      rw [w13_FlowPost_p209_eq, bsp_of rfl, hix, ldg4, e1, e2 _ _ rfl, callP_ret hr hw (.inr rfl), asInt_i]
      by_cases hbig : w > 2000
      · rw [bsp_of (decide_eq_true hbig)]
        exact ⟨_, rfl⟩
      · obtain ⟨cs', hc, hcd'⟩ := CopyCode_spec hcd
        rw [bsp_not (decide_eq_false hbig), hix, ldg4, callP_ret (by simp [toRV, depthA]) hc (.inl rfl)]
        have key : ∀ (x : RV) (e : Int), F_flow_Post [.agg cs'] = some (.ret (.tuple [x, I e])) → ∀ h', (callP F_flow_Post h' [.rv (.agg cs')] (fun r14 => xtr r14 0 fun v16 => xtr r14 1 fun v17 => asInt .i64 v17 fun n18 => callP F_w13_num h' [(.rv (.int .i64 n18))] (fun r19 => asInt .i64 r19 fun n21 => bsp ((n21 != 0)) (w13_FlowPost_p6733 k N M (.rv X) i v16 (true) (h')) (ixa 4 (.rv X) i fun p22 => ldg 4 h' p22 fun v23 => callP F_r13_Flow h' [v23] (fun r24 => asInt .i64 r24 fun n26 => w13_FlowPost_p6733 k N M (.rv X) i v16 ((n26 != 0)) (h')) (fun q25 => some (.pan q25, h')))) (fun q20 => some (.pan q20, h'))) (fun q15 => some (.pan q15, h'))) =
            bsp (e != 0) (w13_FlowPost_p6733 k N M (.rv X) i (.rv x) (true) (h')) (ixa 4 (.rv X) i fun p22 => ldg 4 h' p22 fun v23 => callP F_r13_Flow h' [v23] (fun r24 => asInt .i64 r24 fun n26 => w13_FlowPost_p6733 k N M (.rv X) i (.rv x) ((n26 != 0)) (h')) (fun q25 => some (.pan q25, h'))) := by
          intro x e hF h'
          have h4 : ∀ (K : AV → Option (ARes × Hp)), xtr (.rv (.tuple [x, I e])) 0 K = K (.rv x) := fun K => rfl
          have h5 : ∀ (K : AV → Option (ARes × Hp)), xtr (.rv (.tuple [x, I e])) 1 K = K (.rv (I e)) := fun K => rfl
          rw [callP_ret (by simp [toRV, depthA]) hF (.inl rfl), h4, h5, asInt_i, callP_ret (by simp [toRV, depthA]) (num_spec e) (.inr rfl), asInt_i]
        have skip : ∀ (x : AV) h, TR (w13_FlowPost_p6733 k N M (.rv X) i x true h) := by
          intro x h
          rw [w13_FlowPost_p6733_eq, bsp_of rfl]
          exact next h
        by_cases hf : formOk ds[i].blocks = true
        · by_cases hq : FlowOk ds[i].blocks
          · have hl : 0 < ds[i].blocks.length ∧ ds[i].blocks.length ≤ 4096 := by
              simp only [formOk, Bool.and_eq_true, decide_eq_true_eq] at hf
              exact hf.1
            obtain ⟨P, hP⟩ := IsPost.ex (formOk_succs hf) hl.1
            obtain ⟨x, e, hx⟩ := Post_spec hcd' hf hq hP
            rw [key x 0 e, bsp_not (by rfl), hix, ldg4, callP_ret (by simp [toRV, depthA]) ((Flow_spec hcd).2.1 hf hq) (.inr rfl), asInt_i, w13_FlowPost_p6733_eq, bsp_not (by rfl), hix, pad_rop3, ldv_rop, hb.len, mks_one (by omega) (by omega), show ((0 : Int)) = ((0 : Nat) : Int) from rfl]
            refine FP_fill k N M _ hl.2 (fun h ho => ?_) ds[i].blocks.length 0 k _ (by omega) (by omega) ?_
            · rw [w13_FlowPost_p13471_eq]
              refine FP_ranks hX hil hf hq hP hx k N M _ hk next P.length 0 k h (by omega) (by have := (hP.facts (formOk_succs hf) hl.1).2.2; omega) ?_
              have : rks P 0 ds[i].blocks.length = List.replicate ds[i].blocks.length (-1) := by
                apply List.ext_getElem?
                intro j
                by_cases hj : j < ds[i].blocks.length
                · rw [rks_at hj, List.getElem?_replicate, if_pos hj]
                  simp [rk]
                · rw [List.getElem?_eq_none (by rw [rks_len]; omega), List.getElem?_eq_none (by simp; omega)]
              rw [this]
              exact ho
            · have := get_new (h := h ++ [(⟨0, 4, [.rv p, .rv r, .rv v, .rv b]⟩ : Ob)]) ⟨0, 1, zrep [ai ((0 : Nat) : Int)] ds[i].blocks.length⟩
              rw [this]
              simp [zrep]
          · rw [key .nils 131 ((Post_bad hcd').2 hf hq), bsp_of (by rfl)]
            exact skip _ _
        · rw [key .nils 130 ((Post_bad hcd').1 (by simpa using hf)), bsp_of (by rfl)]
          exact skip _ _
    · rw [decide_eq_false (by omega : ¬ (i : Int) < 10)]
      exact fin i N h
end
theorem FlowPost_spec {X : RV} {ds : List Cd} (hX : IsRows 4 IsCd X ds) : F_w13_FlowPost [X] = some (.ret (.bool true)) := by
  have hs := hX.short
  obtain ⟨h, e⟩ := FP_outer hX big ([] : Hp).length (by rw [big_val]; omega) ds.length 0 big [] (by omega) (by rw [big_val]; omega)
  unfold F_w13_FlowPost
  rw [List.map_cons, List.map_nil, w13_FlowPost_eq, show ((0 : Int)) = ((0 : Nat) : Int) from rfl, e]
  simp [pureR, toRV, depthA]
end Go.Proofs.Ytknphnmhjmejaaa
/-  Immediate dominators by turns, each block's out of those of what leads to it, until nothing turns: plain. No conditions. -/
namespace Go.Proofs.Ytknphnmhjmejaaa
set_option linter.unusedVariables false
/-- Blocks, their places in postorder, what leads to each; of each but the first one that leads to it and stands behind it. -/
structure Gr where
  N : Nat → Prop
  num : Nat → Nat
  pr : Nat → List Nat
  t : Nat → Nat
  n0 : N 0
  inj : ∀ a b, N a → N b → num a = num b → a = b
  top : ∀ b, N b → b ≠ 0 → num b < num 0
  pin : ∀ b, N b → ∀ p ∈ pr b, N p
  tp : ∀ b, N b → b ≠ 0 → t b ∈ pr b ∧ num b < num (t b)
/-- What is reached without d. -/
inductive Gr.Av (G : Gr) (d : Nat) : Nat → Prop
  | root (h : 0 ≠ d) : Gr.Av G d 0
  | step {p b : Nat} (r : Gr.Av G d p) (h : p ∈ G.pr b) (hb : G.N b) (hd : b ≠ d) : Gr.Av G d b
abbrev Par := Nat → Option Nat
inductive Anc (par : Par) : Nat → Nat → Prop
  | refl (x : Nat) : Anc par x x
  | step {x y e : Nat} (h : par x = some y) (r : Anc par y e) : Anc par x e
inductive TAn (G : Gr) : Nat → Nat → Prop
  | refl (x : Nat) : TAn G x x
  | step {x e : Nat} (h : x ≠ 0) (hx : G.N x) (r : TAn G (G.t x) e) : TAn G x e
theorem TAn.trans {G : Gr} {x y z : Nat} (a : TAn G x y) (b : TAn G y z) : TAn G x z := by
  induction a with
  | refl => exact b
  | step h hx _ ih => exact .step h hx (ih b)
section
variable {par : Par}
theorem Anc.trans {x y z : Nat} (a : Anc par x y) (b : Anc par y z) : Anc par x z := by
  induction a with
  | refl => exact b
  | step h _ ih => exact .step h (ih b)
theorem Anc.linear {x a b : Nat} (h : Anc par x a) (k : Anc par x b) : Anc par a b ∨ Anc par b a := by
  induction h with
  | refl => exact .inl k
  | step e r ih =>
    cases k with
    | refl => exact .inr (.step e r)
    | step e2 r2 =>
      rw [e] at e2
      cases e2
      exact ih r2
theorem Anc.next {x y e : Nat} (h : Anc par x e) (hn : x ≠ e) (hp : par x = some y) : Anc par y e := by
  cases h with
  | refl => exact absurd rfl hn
  | step e2 r => rw [hp] at e2; cases e2; exact r
end
structure Inv (G : Gr) (par : Par) : Prop where
  root : par 0 = some 0
  up : ∀ x y, x ≠ 0 → par x = some y → G.N x ∧ G.N y ∧ G.num x < G.num y ∧ par y ≠ none ∧ TAn G x y
  dom : ∀ x, G.N x → par x ≠ none → ∀ d, ¬ G.Av d x → Anc par x d
section
variable {G : Gr} {par : Par}
theorem Inv.nz (k : Inv G par) {x e : Nat} (h : Anc par x e) (hx : x = 0) : e = 0 := by
  induction h with
  | refl => exact hx
  | step hp r ih =>
    subst hx
    rw [k.root] at hp
    cases hp
    exact ih rfl
theorem Inv.le (k : Inv G par) {x e : Nat} (h : Anc par x e) : x = e ∨ G.num x < G.num e := by
  induction h with
  | refl => exact .inl rfl
  | @step x y e hp r ih =>
    by_cases hx : x = 0
    · subst hx
      exact .inl (k.nz (.step hp r) rfl).symm
    · have := (k.up x y hx hp).2.2.1
      rcases ih with rfl | h
      · exact .inr this
      · exact .inr (by omega)
theorem Inv.le' (k : Inv G par) {x e : Nat} (h : Anc par x e) : G.num x ≤ G.num e := by
  rcases k.le h with rfl | h <;> omega
theorem Inv.anti (k : Inv G par) {x e : Nat} (h : Anc par x e) (h2 : Anc par e x) : x = e := by
  rcases k.le h with h | h
  · exact h
  · have := k.le' h2
    omega
theorem Inv.set (k : Inv G par) {x e : Nat} (h : Anc par x e) (hs : par x ≠ none) : par e ≠ none := by
  induction h with
  | refl => exact hs
  | @step x y e hp r ih =>
    by_cases hx : x = 0
    · subst hx
      rw [k.root] at hp
      cases hp
      exact ih hs
    · exact ih (k.up x y hx hp).2.2.2.1
theorem Inv.n (k : Inv G par) {x e : Nat} (h : Anc par x e) (hs : G.N x) : G.N e := by
  induction h with
  | refl => exact hs
  | @step x y e hp r ih =>
    by_cases hx : x = 0
    · subst hx
      rw [k.root] at hp
      cases hp
      exact ih hs
    · exact ih (k.up x y hx hp).2.1
theorem Inv.tan (k : Inv G par) {x e : Nat} (h : Anc par x e) : TAn G x e := by
  induction h with
  | refl x => exact .refl x
  | @step x y e hp r ih =>
    by_cases hx : x = 0
    · have := k.nz (.step hp r) hx
      subst hx; subst this
      exact .refl 0
    · exact (k.up x y hx hp).2.2.2.2.trans ih
/-- Along those that stand behind each a block is reached without what stands behind all. -/
theorem Gr.tpath {x b d : Nat} (h : TAn G x b) (hd : G.num b < G.num d) (hx : G.N x) : G.num x ≤ G.num b ∧ (G.Av d b → G.Av d x) := by
  induction h with
  | refl => exact ⟨Nat.le_refl _, id⟩
  | step h0 hN r ih =>
    obtain ⟨h1, h2⟩ := G.tp _ hN h0
    obtain ⟨h3, h4⟩ := ih hd (G.pin _ hN _ h1)
    refine ⟨by omega, fun h => .step (h4 h) h1 hN ?_⟩
    rintro rfl
    omega
def upd (par : Par) (y c : Nat) : Par := fun x => if x = y then some c else par x
theorem upd_same {y c : Nat} : upd par y c y = some c := by simp [upd]
theorem upd_ne {x y c : Nat} (h : x ≠ y) : upd par y c x = par x := by simp [upd, h]
/-- What does not come to y is as it was. -/
theorem anc_high {x y c e : Nat} (hn : ¬ Anc par x y) : Anc (upd par y c) x e ↔ Anc par x e := by
  constructor
  · intro h
    induction h with
    | refl => exact .refl _
    | @step x z e hp r ih =>
      have hxy : x ≠ y := by rintro rfl; exact hn (.refl _)
      rw [upd_ne hxy] at hp
      exact .step hp (ih fun h => hn (.step hp h))
  · intro h
    induction h with
    | refl => exact .refl _
    | @step x z e hp r ih =>
      have hxy : x ≠ y := by rintro rfl; exact hn (.refl _)
      exact .step (by rw [upd_ne hxy]; exact hp) (ih fun h => hn (.step hp h))
theorem anc_to {x y c : Nat} (h : Anc par x y) : Anc (upd par y c) x y := by
  induction h with
  | refl => exact .refl _
  | @step x z y hp r ih =>
    by_cases hxy : x = y
    · subst hxy; exact .refl _
    · exact .step (by rw [upd_ne hxy]; exact hp) ih
theorem anc_split {x y c e : Nat} (h : Anc par x e) : Anc (upd par y c) x e ∨ (Anc par x y ∧ Anc par y e ∧ y ≠ e) := by
  induction h with
  | refl => exact .inl (.refl _)
  | @step x z e hp r ih =>
    by_cases hxy : x = y
    · subst hxy
      by_cases he : x = e
      · subst he; exact .inl (.refl _)
      · exact .inr ⟨.refl _, .step hp r, he⟩
    · rcases ih with h | ⟨h1, h2, h3⟩
      · exact .inl (.step (by rw [upd_ne hxy]; exact hp) h)
      · exact .inr ⟨.step hp h1, h2, h3⟩
/-- All that is above all of what leads to y, and is known: above c. -/
def IsMeet (G : Gr) (par : Par) (y c : Nat) : Prop := ∀ e, Anc par c e ↔ ∀ p ∈ G.pr y, par p ≠ none → Anc par p e
structure Put (G : Gr) (par : Par) (y c : Nat) : Prop where
  k : Inv G par
  y0 : y ≠ 0
  hy : G.N y
  ht : par (G.t y) ≠ none
  m : IsMeet G par y c
theorem Put.tc {y c : Nat} (u : Put G par y c) : Anc par (G.t y) c := (u.m c).1 (.refl c) _ (G.tp y u.hy u.y0).1 u.ht
theorem Put.lt {y c : Nat} (u : Put G par y c) : G.num y < G.num c := by
  have := u.k.le' u.tc
  have := (G.tp y u.hy u.y0).2
  omega
theorem Put.high {y c : Nat} (u : Put G par y c) {x e : Nat} (h : G.num y < G.num x) : Anc (upd par y c) x e ↔ Anc par x e :=
  anc_high fun h2 => by have := u.k.le' h2; omega
theorem Put.inv {y c : Nat} (u : Put G par y c) : Inv G (upd par y c) := by
  have hset : ∀ x, par x ≠ none → upd par y c x ≠ none := by
    intro x h
    by_cases hx : x = y
    · subst hx; simp [upd_same]
    · rwa [upd_ne hx]
  have dy : ∀ d, ¬ G.Av d y → Anc (upd par y c) y d := by
    intro d hd
    by_cases e : y = d
    · subst e; exact .refl _
    · refine .step upd_same ((u.high u.lt).2 ((u.m d).2 fun p hp hs => u.k.dom p (G.pin _ u.hy _ hp) hs d fun h => hd (.step h hp u.hy e)))
  refine ⟨by rw [upd_ne (Ne.symm u.y0)]; exact u.k.root, ?_, ?_⟩
  · intro x z hx hp
    by_cases hxy : x = y
    · subst hxy
      rw [upd_same] at hp
      cases hp
      refine ⟨u.hy, u.k.n u.tc (G.pin _ u.hy _ (G.tp x u.hy u.y0).1), u.lt, hset _ (u.k.set u.tc u.ht), .step u.y0 u.hy (u.k.tan u.tc)⟩
    · rw [upd_ne hxy] at hp
      obtain ⟨h1, h2, h3, h4, h5⟩ := u.k.up x z hx hp
      exact ⟨h1, h2, h3, hset _ h4, h5⟩
  · intro x hN hs d hd
    by_cases hxy : x = y
    · subst hxy; exact dy d hd
    · rw [upd_ne hxy] at hs
      rcases anc_split (y := y) (c := c) (u.k.dom x hN hs d hd) with h | ⟨h1, h2, h3⟩
      · exact h
      · have hlt : G.num y < G.num d := (u.k.le h2).resolve_left h3
        have := (G.tpath (u.k.tan h1) hlt hN).2
        exact (anc_to h1).trans (dy d fun h => hd (this h))
/-- What is kept while turns are made: 'v' is the place up to which this turn has not come. -/
structure Kept (G : Gr) (par : Par) (v : Nat) : Prop where
  k : Inv G par
  con : ∀ b q, b ≠ 0 → par b = some q → ∀ e, (∀ p ∈ G.pr b, par p ≠ none → Anc par p e) → Anc par q e
  low : ∀ b q z, b ≠ 0 → par b = some q → G.num z < v → Anc par q z → Anc par (G.t b) z
  new : ∀ b q, b ≠ 0 → par b = some q → v ≤ G.num b → Anc par (G.t b) q
  was : ∀ b, G.N b → v ≤ G.num b → par b ≠ none
theorem Kept.put {v y c : Nat} (K : Kept G par v) (y0 : y ≠ 0) (hy : G.N y) (hv : v = G.num y + 1) (m : IsMeet G par y c) : Put G par y c :=
  ⟨K.k, y0, hy, K.was _ (G.pin _ hy _ (G.tp y hy y0).1) (by have := (G.tp y hy y0).2; omega), m⟩
theorem Kept.rises {v y c q : Nat} (K : Kept G par v) (u : Put G par y c) (hq : par y = some q) : q = c ∨ G.num q < G.num c :=
  K.k.le (K.con y q u.y0 hq c ((u.m c).1 (.refl c)))
theorem Kept.next {v y c : Nat} (K : Kept G par v) (hv : v = G.num y + 1) (u : Put G par y c) : Kept G (upd par y c) (G.num y) := by
  have k := u.k
  have k' := u.inv
  have shrink : ∀ x e, par x ≠ none → Anc (upd par y c) x e → Anc par x e := by
    intro x e hs h
    induction h with
    | refl => exact .refl _
    | @step x z e hp r ih =>
      by_cases hxy : x = y
      · subst hxy
        rw [upd_same] at hp
        cases hp
        cases hq : par x with
        | none => exact absurd hq hs
        | some q =>
          have h1 : Anc par q c := K.con x q u.y0 hq c ((u.m c).1 (.refl c))
          exact .step hq (h1.trans ((u.high u.lt).1 r))
      · rw [upd_ne hxy] at hp
        refine .step hp (ih ?_)
        by_cases hx : x = 0
        · subst hx
          rw [k.root] at hp
          cases hp
          exact hs
        · exact (k.up x z hx hp).2.2.2.1
  have setb : ∀ x, par x ≠ none → upd par y c x ≠ none := by
    intro x h
    by_cases hx : x = y
    · subst hx; simp [upd_same]
    · rwa [upd_ne hx]
  refine ⟨k', ?_, ?_, ?_, ?_⟩
  · intro b q hb hq e he
    by_cases hby : b = y
    · subst hby
      rw [upd_same] at hq
      cases hq
      exact (u.high u.lt).2 ((u.m e).2 fun p hp hs => shrink p e hs (he p hp (setb p hs)))
    · rw [upd_ne hby] at hq
      have hold := K.con b q hb hq e fun p hp hs => shrink p e hs (he p hp (setb p hs))
      by_cases hqy : Anc par q y
      · rcases anc_split (y := y) (c := c) hold with h | ⟨h1, h2, h3⟩
        · exact h
        · have hN := (k.up b q hb hq).1
          have ht := K.low b q y hb hq (by omega) hqy
          have htb := (G.tp b hN hb).1
          have hlt : G.num y < G.num e := (k.le h2).resolve_left h3
          have hts : par (G.t b) ≠ none := by
            intro h0
            have hpy : par y ≠ none := k.set hqy (k.up b q hb hq).2.2.2.1
            cases ht with
            | refl => exact hpy h0
            | step hp _ => rw [h0] at hp; cases hp
          have h4 := he _ htb (setb _ hts)
          rcases Anc.linear (anc_to (c := c) ht) h4 with h5 | h5
          · exact (anc_to hqy).trans h5
          · have := k'.le' h5
            omega
      · exact (anc_high hqy).2 hold
  · intro b q z hb hq hz h
    by_cases hby : b = y
    · subst hby
      rw [upd_same] at hq
      cases hq
      have := k'.le' h
      have := u.lt
      omega
    · rw [upd_ne hby] at hq
      have h1 := shrink q z (k.up b q hb hq).2.2.2.1 h
      rcases anc_split (y := y) (c := c) (K.low b q z hb hq (by omega) h1) with h | ⟨_, h2, _⟩
      · exact h
      · have := k.le' h2
        omega
  · intro b q hb hq hv'
    by_cases hby : b = y
    · subst hby
      rw [upd_same] at hq
      cases hq
      exact (u.high (G.tp b u.hy hb).2).2 u.tc
    · rw [upd_ne hby] at hq
      have hN := (k.up b q hb hq).1
      have hne : G.num b ≠ G.num y := fun h => hby (G.inj _ _ hN u.hy h)
      refine (u.high ?_).2 (K.new b q hb hq (by omega))
      have := (G.tp b hN hb).2
      omega
  · intro b hN hv'
    by_cases hby : b = y
    · subst hby; simp [upd_same]
    · rw [upd_ne hby]
      have hne : G.num b ≠ G.num y := fun h => hby (G.inj _ _ hN u.hy h)
      exact K.was b hN (by omega)
/-- Behind a whole turn the next one begins. -/
theorem Kept.again {v : Nat} (K : Kept G par 0) (hv : v = G.num 0) : Kept G par v where
  k := K.k
  con := K.con
  low := fun b q z hb hq _ h => (K.new b q hb hq (Nat.zero_le _)).trans h
  new := fun b q hb hq _ => K.new b q hb hq (Nat.zero_le _)
  was := fun b hN _ => K.was b hN (Nat.zero_le _)
theorem Kept.init (h0 : par 0 = some 0) (hn : ∀ x, x ≠ 0 → par x = none) : Kept G par (G.num 0) where
  k := ⟨h0, fun x y hx h => (by rw [hn x hx] at h; cases h), fun x hN hs d hd => by
    by_cases hx : x = 0
    · subst hx
      by_cases e : 0 = d
      · subst e; exact .refl _
      · exact absurd (.root e) hd
    · exact absurd (hn x hx) hs⟩
  con := fun b q hb h => by rw [hn b hb] at h; cases h
  low := fun b q z hb h => by rw [hn b hb] at h; cases h
  new := fun b q hb h => by rw [hn b hb] at h; cases h
  was := fun b hN hv => by
    by_cases hb : b = 0
    · subst hb; simp [h0]
    · have := G.top b hN hb; omega
/-- Where nothing turns any more, what is above a block is just what it is not reached without. -/
theorem Inv.exact (k : Inv G par) (hall : ∀ b, G.N b → par b ≠ none) (fix : ∀ b q, G.N b → b ≠ 0 → par b = some q → IsMeet G par b q) {b d : Nat} (hN : G.N b) : Anc par b d ↔ ¬ G.Av d b := by
  refine ⟨fun h hav => ?_, fun h => k.dom b hN (hall b hN) d h⟩
  induction hav with
  | root h0 => exact h0 (k.nz h rfl).symm
  | @step p b r hp hb hd ih =>
    by_cases h0 : b = 0
    · exact hd (by rw [k.nz h h0, h0])
    · cases hq : par b with
      | none => exact hall b hb hq
      | some q => exact ih (G.pin b hb p hp) ((fix b q hb h0 hq d).1 (h.next hd hq) p hp (hall p (G.pin b hb p hp)))
end
end Go.Proofs.Ytknphnmhjmejaaa
/-  The walk of immediate dominators: where two blocks' ways up meet. No conditions. -/
namespace Go.Proofs.Ytknphnmhjmejaaa
set_option linter.unusedVariables false
/-- A block's immediate dominator, as the list bears it. -/
def dlv (par : Par) (x : Nat) : Int := match par x with | some y => (y : Int) | none => -1
def dl (par : Par) (n : Nat) : List Int := (List.range n).map (dlv par)
theorem dl_len (par : Par) (n : Nat) : (dl par n).length = n := by simp [dl]
theorem dl_at {par : Par} {n x : Nat} (hx : x < n) : (dl par n)[x]? = some (dlv par x) := by simp [dl, hx]
theorem dl_set {par : Par} {n x c : Nat} (hx : x < n) : (dl par n).set x (c : Int) = dl (upd par x c) n := by
  apply List.ext_getElem?
  intro i
  by_cases hi : i < n
  · rw [dl_at hi, List.getElem?_set]
    by_cases e : x = i
    · subst e
      rw [if_pos rfl, if_pos (by rw [dl_len]; exact hx)]
      simp [dlv, upd]
    · rw [if_neg e, dl_at hi]
      unfold dlv
      rw [upd_ne (fun h => e h.symm)]
  · rw [List.getElem?_eq_none (by simp [dl_len]; omega), List.getElem?_eq_none (by rw [dl_len]; omega)]
/-- What lies where: the places in postorder, the dominators so far. -/
structure DH (P : List Nat) (n : Nat) (par : Par) (h : Hp) : Prop where
  o1 : h[1]? = some ⟨0, 1, (rks P P.length n).map ai⟩
  o2 : h[2]? = some ⟨0, 1, [.sl 1 0 0 n]⟩
  o3 : h[3]? = some ⟨0, 1, (dl par n).map ai⟩
  o4 : h[4]? = some ⟨0, 1, [.sl 3 0 0 n]⟩
theorem DH.num {P : List Nat} {n : Nat} {par : Par} {h : Hp} (k : DH P n par h) {x : Nat} (hx : x < n) (hP : x ∈ P) {R : Type} (K : Int → Option R) : (ldv h (.ptr 2 0 0) fun v => ixa 1 v x fun p => ldi .i64 h p K) = K (P.idxOf x : Int) := by
  rw [ldv_at k.o2 (by rfl), sl_at hx, ldi_at (n := (P.idxOf x : Int)) k.o1 (by rw [List.getElem?_map, rks_at hx, rk_all hP]; rfl)]
theorem DH.dom {P : List Nat} {n : Nat} {par : Par} {h : Hp} (k : DH P n par h) {x : Nat} (hx : x < n) {R : Type} (K : Int → Option R) : (ldv h (.ptr 4 0 0) fun v => ixa 1 v x fun p => ldi .i64 h p K) = K (dlv par x) := by
  rw [ldv_at k.o4 (by rfl), sl_at hx, ldi_at (n := dlv par x) k.o3 (by rw [List.getElem?_map, dl_at hx]; rfl)]
/-- The graph of what is reached, by its order. -/
structure GrP (G : Gr) (P : List Nat) (n : Nat) : Prop where
  mem : ∀ x, G.N x ↔ x ∈ P
  num : ∀ x, G.num x = P.idxOf x
  lt : ∀ x ∈ P, x < n
  nd : P.Nodup
section
variable {G : Gr} {P : List Nat} {n : Nat} {par : Par} {h : Hp}
theorem GrP.le0 (g : GrP G P n) {x : Nat} (hx : G.N x) : G.num x ≤ G.num 0 := by
  by_cases e : x = 0
  · rw [e]; exact Nat.le_refl _
  · exact Nat.le_of_lt (G.top x hx e)
theorem dlv_some {x y : Nat} (hp : par x = some y) : dlv par x = y := by simp [dlv, hp]
/-- What two have above them is what other two have. -/
def Com (par : Par) (a b a' b' : Nat) : Prop := ∀ e, (Anc par a e ∧ Anc par b e) ↔ (Anc par a' e ∧ Anc par b' e)
def Nd (G : Gr) (par : Par) (a : Nat) : Prop := G.N a ∧ par a ≠ none
theorem Inv.step_up (k : Inv G par) {a b : Nat} (ha : Nd G par a) (hb : Nd G par b) (h : G.num a < G.num b) (hle : G.num b ≤ G.num 0) : ∃ y, par a = some y ∧ Nd G par y ∧ G.num a < G.num y ∧ Com par a b y b := by
  obtain ⟨y, hy⟩ := Option.ne_none_iff_exists'.1 ha.2
  have a0 : a ≠ 0 := by rintro rfl; omega
  obtain ⟨_, h2, h3, h4, _⟩ := k.up a y a0 hy
  refine ⟨y, hy, ⟨h2, h4⟩, h3, fun e => ⟨fun ⟨h5, h6⟩ => ⟨h5.next (fun e' => ?_) hy, h6⟩, fun ⟨h5, h6⟩ => ⟨.step hy h5, h6⟩⟩⟩
  subst e'
  have := k.le' h6
  omega
theorem Com.trans {a b c d e f : Nat} (x : Com par a b c d) (y : Com par c d e f) : Com par a b e f := fun z => (x z).trans (y z)
theorem Com.swap {a b c d : Nat} (x : Com par a b c d) : Com par b a d c := fun z => by
  have := x z
  constructor
  · rintro ⟨h1, h2⟩; exact ((this.1 ⟨h2, h1⟩)).symm
  · rintro ⟨h1, h2⟩; exact ((this.2 ⟨h2, h1⟩)).symm
theorem meet_in1 (g : GrP G P n) (k : Inv G par) (d : DH P n par h) (kk N24 M24 M784 : Nat) {b : Nat} (hb : Nd G par b) (Q : Option (ARes × Hp) → Prop) :
    ∀ (m a N784 : Nat), G.num 0 - G.num a ≤ m → m < N784 → Nd G par a →
      (∀ a', Nd G par a' → Com par a b a' b → G.num b ≤ G.num a' → G.num a ≤ G.num a' → Q (ssa_Doms_c1_p197 kk N24 M24 a' b (.ptr 2 0 0) (.ptr 4 0 0) h)) →
      Q (ssa_Doms_c1_l784 kk N24 M24 N784 M784 a b (.ptr 2 0 0) (.ptr 4 0 0) h) := by
  intro m
  induction m with
  | zero =>
    intro a N784 hm hN ha hq
    obtain ⟨N784, rfl⟩ : ∃ q, N784 = q + 1 := ⟨N784 - 1, by omega⟩
    have h1 := g.le0 ha.1
    have h2 := g.le0 hb.1
    rw [ssa_Doms_c1_l784_eq, d.num (g.lt _ ((g.mem a).1 ha.1)) ((g.mem a).1 ha.1), d.num (g.lt _ ((g.mem b).1 hb.1)) ((g.mem b).1 hb.1), ← g.num, ← g.num, bsp_not (decide_eq_false (by omega))]
    exact hq a ha (fun _ => Iff.rfl) (by omega) (Nat.le_refl _)
  | succ m ih =>
    intro a N784 hm hN ha hq
    obtain ⟨N784, rfl⟩ : ∃ q, N784 = q + 1 := ⟨N784 - 1, by omega⟩
    have h1 := g.le0 ha.1
    have h2 := g.le0 hb.1
    rw [ssa_Doms_c1_l784_eq, d.num (g.lt _ ((g.mem a).1 ha.1)) ((g.mem a).1 ha.1), d.num (g.lt _ ((g.mem b).1 hb.1)) ((g.mem b).1 hb.1), ← g.num, ← g.num]
    by_cases hlt : G.num a < G.num b
    · obtain ⟨y, hy, hyn, hny, hc⟩ := k.step_up ha hb hlt h2
      rw [bsp_of (decide_eq_true (by omega)), d.dom (g.lt _ ((g.mem a).1 ha.1)), dlv_some hy]
      have h3 := g.le0 hyn.1
      exact ih y N784 (by omega) (by omega) hyn fun a' h4 h5 h6 h7 => hq a' h4 (hc.trans h5) h6 (by omega)
    · rw [bsp_not (decide_eq_false (by omega))]
      exact hq a ha (fun _ => Iff.rfl) (by omega) (Nat.le_refl _)
theorem meet_in2 (g : GrP G P n) (k : Inv G par) (d : DH P n par h) (kk N24 M24 M788 : Nat) {a : Nat} (ha : Nd G par a) (Q : Option (ARes × Hp) → Prop) :
    ∀ (m b N788 : Nat), G.num 0 - G.num b ≤ m → m < N788 → Nd G par b →
      (∀ b', Nd G par b' → Com par a b a b' → G.num a ≤ G.num b' → G.num b ≤ G.num b' → Q (ssa_Doms_c1_l24 kk N24 M24 a b' (.ptr 2 0 0) (.ptr 4 0 0) h)) →
      Q (ssa_Doms_c1_l788 kk N24 M24 N788 M788 a b (.ptr 2 0 0) (.ptr 4 0 0) h) := by
  intro m
  induction m with
  | zero =>
    intro b N788 hm hN hb hq
    obtain ⟨N788, rfl⟩ : ∃ q, N788 = q + 1 := ⟨N788 - 1, by omega⟩
    have h1 := g.le0 ha.1
    have h2 := g.le0 hb.1
    rw [ssa_Doms_c1_l788_eq, d.num (g.lt _ ((g.mem b).1 hb.1)) ((g.mem b).1 hb.1), d.num (g.lt _ ((g.mem a).1 ha.1)) ((g.mem a).1 ha.1), ← g.num, ← g.num, bsp_not (decide_eq_false (by omega))]
    exact hq b hb (fun _ => Iff.rfl) (by omega) (Nat.le_refl _)
  | succ m ih =>
    intro b N788 hm hN hb hq
    obtain ⟨N788, rfl⟩ : ∃ q, N788 = q + 1 := ⟨N788 - 1, by omega⟩
    have h1 := g.le0 ha.1
    have h2 := g.le0 hb.1
    rw [ssa_Doms_c1_l788_eq, d.num (g.lt _ ((g.mem b).1 hb.1)) ((g.mem b).1 hb.1), d.num (g.lt _ ((g.mem a).1 ha.1)) ((g.mem a).1 ha.1), ← g.num, ← g.num]
    by_cases hlt : G.num b < G.num a
    · obtain ⟨y, hy, hyn, hny, hc⟩ := k.step_up hb ha hlt h1
      rw [bsp_of (decide_eq_true (by omega)), d.dom (g.lt _ ((g.mem b).1 hb.1)), dlv_some hy]
      have h3 := g.le0 hyn.1
      exact ih y N788 (by omega) (by omega) hyn fun b' h4 h5 h6 h7 => hq b' h4 (hc.swap.trans h5) h6 (by omega)
    · rw [bsp_not (decide_eq_false (by omega))]
      exact hq b hb (fun _ => Iff.rfl) (by omega) (Nat.le_refl _)
/-- What stands above both. -/
def IsM (G : Gr) (par : Par) (a b c : Nat) : Prop := Nd G par c ∧ ∀ e, Anc par c e ↔ (Anc par a e ∧ Anc par b e)
theorem meet_out (g : GrP G P n) (k : Inv G par) (d : DH P n par h) (kk M24 : Nat) (hk : G.num 0 < kk) {a0 b0 : Nat} :
    ∀ (m a b N24 : Nat), (G.num 0 - G.num a) + (G.num 0 - G.num b) ≤ m → m < N24 → Nd G par a → Nd G par b → Com par a0 b0 a b →
      ∃ c, IsM G par a0 b0 c ∧ ssa_Doms_c1_l24 kk N24 M24 a b (.ptr 2 0 0) (.ptr 4 0 0) h = some (.ret (ai c), h) := by
  intro m
  induction m with
  | zero =>
    intro a b N24 hm hN ha hb hc
    obtain ⟨N24, rfl⟩ : ∃ q, N24 = q + 1 := ⟨N24 - 1, by omega⟩
    have h1 := g.le0 ha.1
    have h2 := g.le0 hb.1
    have e : a = b := G.inj a b ha.1 hb.1 (by omega)
    subst e
    rw [ssa_Doms_c1_l24_eq, bsp_not (by simp), ssa_Doms_c1_p7_eq]
    exact ⟨a, ⟨ha, fun e => ⟨fun h => (hc e).2 ⟨h, h⟩, fun h => ((hc e).1 h).1⟩⟩, rfl⟩
  | succ m ih =>
    intro a b N24 hm hN ha hb hc
    obtain ⟨N24, rfl⟩ : ∃ q, N24 = q + 1 := ⟨N24 - 1, by omega⟩
    have h1 := g.le0 ha.1
    have h2 := g.le0 hb.1
    by_cases e : a = b
    · subst e
      rw [ssa_Doms_c1_l24_eq, bsp_not (by simp), ssa_Doms_c1_p7_eq]
      exact ⟨a, ⟨ha, fun e => ⟨fun h => (hc e).2 ⟨h, h⟩, fun h => ((hc e).1 h).1⟩⟩, rfl⟩
    · have hne : G.num a ≠ G.num b := fun h => e (G.inj a b ha.1 hb.1 h)
      rw [ssa_Doms_c1_l24_eq, bsp_of (by simpa using (by omega : ¬ (a : Int) = b))]
      refine meet_in1 g k d kk N24 M24 _ hb (fun o => ∃ c, IsM G par a0 b0 c ∧ o = some (.ret (ai c), h)) (G.num 0) a kk (by omega) hk ha fun a' ha' hc' h3 h4 => ?_
      rw [ssa_Doms_c1_p197_eq]
      refine meet_in2 g k d kk N24 M24 _ ha' (fun o => ∃ c, IsM G par a0 b0 c ∧ o = some (.ret (ai c), h)) (G.num 0) b kk (by omega) hk hb fun b' hb' hc2 h5 h6 => ?_
      have h7 := g.le0 ha'.1
      have h8 := g.le0 hb'.1
      exact ih a' b' N24 (by omega) (by omega) ha' hb' (hc.trans (hc'.trans hc2))
theorem meet_spec (g : GrP G P n) (k : Inv G par) (d : DH P n par h) {a b : Nat} (ha : Nd G par a) (hb : Nd G par b) (hn : n ≤ 4096) :
    ∃ c, IsM G par a b c ∧ G_ssa_Doms_c1 [ai a, ai b, .ptr 2 0 0, .ptr 4 0 0] h = some (.ret (ai c), h) := by
  have h0 : G.num 0 < 4096 := by
    have h1 := (g.mem 0).1 G.n0
    rw [g.num]
    have h2 := List.idxOf_lt_length_iff.2 h1
    have h3 : P.length ≤ n := by
      exact nodup_le n P g.nd g.lt
    omega
  unfold G_ssa_Doms_c1
  rw [ssa_Doms_c1_eq]
  exact meet_out g k d big _ (by rw [big_val]; omega) _ a b big (Nat.le_refl _) (by rw [big_val]; omega) ha hb (fun _ => Iff.rfl)
end
end Go.Proofs.Ytknphnmhjmejaaa
/-  The walk of immediate dominators: the graph, and what leads to a block. No conditions. -/
namespace Go.Proofs.Ytknphnmhjmejaaa
set_option linter.unusedVariables false
/-- What leads to a block. -/
def prd (bs : List Blk) (x : Nat) : List Nat := match bs[x]? with | some b => b.preds.map Int.toNat | none => []
theorem prd_at {bs : List Blk} {x : Nat} (hx : x < bs.length) : prd bs x = bs[x].preds.map Int.toNat := by
  simp [prd, hx]
theorem prd_mem {bs : List Blk} (hf : formOk bs = true) {x y : Nat} (hy : y < bs.length) : x ∈ prd bs y ↔ (x : Int) ∈ bs[y].preds := by
  rw [prd_at hy, List.mem_map]
  constructor
  · rintro ⟨n, hn, e⟩
    obtain ⟨m, rfl, _⟩ := formOk_preds hf y _ (List.getElem?_eq_getElem hy) n hn
    have : m = x := by simpa using e
    rw [← this]
    exact hn
  · exact fun h => ⟨_, h, by simp⟩
theorem sucs_mem {bs : List Blk} (hf : formOk bs = true) {x y : Nat} (hx : x < bs.length) : y ∈ sucs bs x ↔ (y : Int) ∈ bs[x].succs := by
  rw [sucs_at hx, List.mem_map]
  constructor
  · rintro ⟨n, hn, e⟩
    obtain ⟨m, rfl, _⟩ := formOk_succs hf x _ (List.getElem?_eq_getElem hx) n hn
    have : m = y := by simpa using e
    rw [← this]
    exact hn
  · exact fun h => ⟨_, h, by simp⟩
theorem prd_sucs {bs : List Blk} (hf : formOk bs = true) (hq : FlowOk bs) {x y : Nat} (hx : x < bs.length) (hy : y < bs.length) : y ∈ sucs bs x ↔ x ∈ prd bs y := by
  have gx := List.getElem?_eq_getElem hx
  have gy := List.getElem?_eq_getElem hy
  have hole : ∀ {z : Nat} (hz : z < bs.length), bs[z].kind = 0 → bs[z].preds = [] ∧ bs[z].succs = [] := fun hz h => blkOk_hole (formOk_mem hf (List.getElem_mem hz)) h
  rw [sucs_mem hf hx, prd_mem hf hy]
  constructor
  · intro h
    have hk : bs[x].kind ≠ 0 := fun e => by rw [(hole hx e).2] at h; cases h
    have := (hq.join x _ gx hk).2.1 _ h bs[y] (by simp)
    have h2 : 0 < bs[x].succs.count (y : Int) := List.count_pos_iff.2 h
    exact List.count_pos_iff.1 (by omega)
  · intro h
    have hk : bs[y].kind ≠ 0 := fun e => by rw [(hole hy e).1] at h; cases h
    have := (hq.join y _ gy hk).2.2 _ h bs[x] (by simp)
    exact List.count_pos_iff.1 (by omega)
/-- The graph of what is reached. -/
theorem IsPost.behind {bs : List Blk} {P : List Nat} (hP : IsPost bs P) {x : Nat} (hx : x ∈ P) (h0 : x ≠ 0) : ∃ t, t ∈ P ∧ x ∈ sucs bs t ∧ P.idxOf x < P.idxOf t := by
  obtain ⟨S, h1⟩ := hP
  obtain ⟨N, Q, k⟩ := h1.found
  have e : Q = P := by rw [k.p]; rfl
  subst e
  have hnd : Q.Nodup := k.qd
  have hlx : Q.idxOf x < Q.length := List.idxOf_lt_length_iff.2 hx
  have hsplit : Q = Q.take (Q.idxOf x) ++ x :: Q.drop (Q.idxOf x + 1) := by
    conv => lhs; rw [← List.take_append_drop (Q.idxOf x) Q, List.drop_eq_getElem_cons hlx, List.getElem_idxOf hlx]
  rcases k.from_ _ _ x hsplit with h | ⟨t, ht, hs⟩
  · exact absurd (by simpa using h) h0
  · refine ⟨t, List.mem_of_mem_drop ht, hs, ?_⟩
    obtain ⟨j, hj, hj2⟩ := List.getElem_of_mem ht
    rw [List.getElem_drop] at hj2
    have hjl : Q.idxOf x + 1 + j < Q.length := by rw [List.length_drop] at hj; omega
    have := List.Nodup.idxOf_getElem hnd _ hjl
    rw [hj2] at this
    omega
open Classical in
noncomputable def grT (bs : List Blk) (P : List Nat) (x : Nat) : Nat := if h : ∃ t, t ∈ P ∧ x ∈ sucs bs t ∧ P.idxOf x < P.idxOf t then h.choose else 0
noncomputable def grOf {bs : List Blk} {P : List Nat} (hf : formOk bs = true) (hq : FlowOk bs) (hP : IsPost bs P) : Gr where
  N x := x ∈ P
  num x := P.idxOf x
  pr := prd bs
  t := grT bs P
  n0 := (hP.mem 0).2 (.refl 0)
  inj a b ha hb h := by
    have h1 := List.getElem_idxOf (List.idxOf_lt_length_iff.2 ha)
    have h2 := List.getElem_idxOf (List.idxOf_lt_length_iff.2 hb)
    rw [← h1, ← h2]
    simp only [h]
  top b hb h0 := by
    obtain ⟨P0, e⟩ := hP.last
    have hl : 0 < bs.length := by
      simp only [formOk, Bool.and_eq_true, decide_eq_true_eq] at hf
      exact hf.1.1
    have hnd := (hP.facts (formOk_succs hf) hl).1
    have h1 : P.idxOf 0 = P0.length := by
      have h2 : P0.length < P.length := by rw [e]; simp
      have h3 := List.Nodup.idxOf_getElem hnd _ h2
      have h4 : P[P0.length] = 0 := by simp [e]
      rw [h4] at h3
      exact h3
    have h2 : P.idxOf b < P.length := List.idxOf_lt_length_iff.2 hb
    have h3 : P.length = P0.length + 1 := by rw [e]; simp
    have h4 : P.idxOf b ≠ P.idxOf 0 := fun h => h0 (by
      have k1 := List.getElem_idxOf h2
      have k2 := List.getElem_idxOf (List.idxOf_lt_length_iff.2 ((hP.mem 0).2 (.refl 0)))
      rw [← k1, ← k2]
      simp only [h])
    omega
  pin b hb p hp := by
    have hl : 0 < bs.length := by
      simp only [formOk, Bool.and_eq_true, decide_eq_true_eq] at hf
      exact hf.1.1
    have hbl := (hP.facts (formOk_succs hf) hl).2.1 b hb
    have hp2 := (prd_mem hf hbl).1 hp
    obtain ⟨m, c, e, hc, hk⟩ := (blkOk_nums (formOk_mem hf (List.getElem_mem hbl))).1 _ hp2
    have : m = p := by omega
    subst this
    exact (post_kind hf hq hP hc).2 hk
  tp b hb h0 := by
    have hl : 0 < bs.length := by
      simp only [formOk, Bool.and_eq_true, decide_eq_true_eq] at hf
      exact hf.1.1
    have hlt := (hP.facts (formOk_succs hf) hl).2.1
    have h := hP.behind hb h0
    have h2 := h.choose_spec
    have e : grT bs P b = h.choose := by unfold grT; rw [dif_pos h]
    rw [e]
    exact ⟨(prd_sucs hf hq (hlt _ h2.1) (hlt b hb)).1 h2.2.1, h2.2.2⟩
theorem grP {bs : List Blk} {P : List Nat} (hf : formOk bs = true) (hq : FlowOk bs) (hP : IsPost bs P) : GrP (grOf hf hq hP) P bs.length := by
  have hl : 0 < bs.length := by
    simp only [formOk, Bool.and_eq_true, decide_eq_true_eq] at hf
    exact hf.1.1
  obtain ⟨h1, h2, _⟩ := hP.facts (formOk_succs hf) hl
  exact ⟨fun x => Iff.rfl, fun x => rfl, h2, h1⟩
end Go.Proofs.Ytknphnmhjmejaaa
/-  The walk of immediate dominators: one block's, out of what leads to it. No conditions. -/
namespace Go.Proofs.Ytknphnmhjmejaaa
set_option linter.unusedVariables false
/-- What is known when some of what leads to a block has been looked at. -/
def Acc (G : Gr) (par : Par) (l : List Nat) (d : Int) : Prop :=
  (d = -1 ∧ ∀ p ∈ l, par p = none) ∨ ∃ c : Nat, d = c ∧ Nd G par c ∧ ∀ e, Anc par c e ↔ ∀ p ∈ l, par p ≠ none → Anc par p e
theorem dlv_neg {par : Par} {x : Nat} : dlv par x < 0 ↔ par x = none := by
  unfold dlv
  split
  · rename_i y h; rw [h]; simp
  · rename_i h; rw [h]; simp
section
variable {G : Gr} {P : List Nat} {n : Nat} {par : Par} {h : Hp}
theorem Acc.skip {l : List Nat} {d : Int} (a : Acc G par l d) {p : Nat} (hp : par p = none) : Acc G par (l ++ [p]) d := by
  rcases a with ⟨h1, h2⟩ | ⟨c, h1, h2, h3⟩
  · refine .inl ⟨h1, fun q hq => ?_⟩
    rcases List.mem_append.1 hq with hq | hq
    · exact h2 q hq
    · rw [List.mem_singleton.1 hq]; exact hp
  · refine .inr ⟨c, h1, h2, fun e => (h3 e).trans ⟨fun h4 q hq hs => ?_, fun h4 q hq hs => h4 q (List.mem_append_left _ hq) hs⟩⟩
    rcases List.mem_append.1 hq with hq | hq
    · exact h4 q hq hs
    · rw [List.mem_singleton.1 hq] at hs; exact absurd hp hs
theorem Acc.add {l : List Nat} {d : Int} (a : Acc G par l d) {p : Nat} (hp : Nd G par p) : (d < 0 → Acc G par (l ++ [p]) p) ∧ (¬ d < 0 → ∃ c : Nat, d = c ∧ Nd G par c ∧ ∀ c', IsM G par c p c' → Acc G par (l ++ [p]) c') := by
  rcases a with ⟨h1, h2⟩ | ⟨c, h1, h2, h3⟩
  · refine ⟨fun _ => .inr ⟨p, rfl, hp, fun e => ⟨fun h4 q hq hs => ?_, fun h4 => h4 p (by simp) hp.2⟩⟩, fun h => absurd (show d < 0 by omega) h⟩
    rcases List.mem_append.1 hq with hq | hq
    · exact absurd (h2 q hq) hs
    · rw [List.mem_singleton.1 hq]; exact h4
  · refine ⟨fun h => by omega, fun _ => ⟨c, h1, h2, fun c' hm => .inr ⟨c', rfl, hm.1, fun e => (hm.2 e).trans ⟨fun ⟨h4, h5⟩ q hq hs => ?_, fun h4 => ⟨(h3 e).2 fun q hq hs => h4 q (List.mem_append_left _ hq) hs, h4 p (by simp) hp.2⟩⟩⟩⟩⟩
    rcases List.mem_append.1 hq with hq | hq
    · exact (h3 e).1 h4 q hq hs
    · rw [List.mem_singleton.1 hq]; exact h5
theorem preds_loop (g : GrP G P n) (hn : n ≤ 4096) (k : Inv G par) (hN : ∀ x, par x ≠ none → G.N x) (d : DH P n par h) (h5 : h[5]? = some ⟨0, 1, [.func id_ssa_Doms_c1 [] [.ptr 2 0 0, .ptr 4 0 0]]⟩) (kk N1 M1 N2 : Nat) (P2 y1 y2 y6 y10 y11 y54 x11 : AV) (b M3 : Nat)
    {s : RV} {ps : List Int} (hs : IsInts s ps) (hps : ∀ x ∈ ps, ∃ q : Nat, x = q ∧ q < n) (Q : Option (ARes × Hp) → Prop)
    (next : ∀ e, Acc G par (ps.map Int.toNat) e → Q (ssa_Doms_p8365271 kk N1 M1 N2 P2 y1 y2 y6 y10 y11 y54 (.ptr 4 0 0) x11 b e h)) :
    ∀ (m j N3 : Nat) (e : Int), j + m = ps.length → m < N3 → Acc G par ((ps.take j).map Int.toNat) e →
      Q (ssa_Doms_l66922164 kk N1 M1 N2 P2 y1 y2 y6 y10 y11 y54 N3 M3 (.ptr 4 0 0) (.ptr 5 0 0) x11 b e (.rv s) ps.length j h) := by
  have hsh := hs.short
  intro m
  induction m with
  | zero =>
    intro j N3 e hj hN3 ha
    obtain ⟨N3, rfl⟩ : ∃ q, N3 = q + 1 := ⟨N3 - 1, by omega⟩
    rw [ssa_Doms_l66922164_eq, bsp_not (decide_eq_false (by omega))]
    rw [List.take_of_length_le (by omega)] at ha
    exact next e ha
  | succ m ih =>
    intro j N3 e hj hN3 ha
    obtain ⟨N3, rfl⟩ : ∃ q, N3 = q + 1 := ⟨N3 - 1, by omega⟩
    have hjl : j < ps.length := by omega
    obtain ⟨q, hq, hql⟩ := hps ps[j] (List.getElem_mem hjl)
    have htake : (ps.take (j + 1)).map Int.toNat = (ps.take j).map Int.toNat ++ [q] := by
      rw [List.take_add_one, List.getElem?_eq_getElem hjl, hq]
      simp
    have step : ∀ e, Acc G par ((ps.take j).map Int.toNat ++ [q]) e → Q (ssa_Doms_p535377319 kk N1 M1 N2 P2 y1 y2 y6 y10 y11 y54 N3 M3 (.ptr 4 0 0) (.ptr 5 0 0) x11 b e (.rv s) ps.length j h) := by
      intro e ha
      rw [ssa_Doms_p535377319_eq, wri_succ (by omega)]
      exact ih (j + 1) N3 e (by omega) (by omega) (by rw [htake]; exact ha)
    rw [ssa_Doms_l66922164_eq, bsp_of (decide_eq_true (by omega)), hs.at hjl, hq, d.dom hql]
    by_cases hp : par q = none
    · rw [bsp_of (decide_eq_true (dlv_neg.2 hp))]
      exact step e (ha.skip hp)
    · rw [bsp_not (decide_eq_false (fun h => hp (dlv_neg.1 h)))]
      have hnd : Nd G par q := ⟨hN q hp, hp⟩
      obtain ⟨a1, a2⟩ := ha.add hnd
      by_cases he : e < 0
      · rw [bsp_of (decide_eq_true he)]
        exact step q (a1 he)
      · obtain ⟨c, rfl, hc, hm⟩ := a2 he
        obtain ⟨c', hc', hrun⟩ := meet_spec g k d hc hnd hn
        rw [bsp_not (decide_eq_false he), ldv_at h5 (by rfl), callV_gen (G := G_ssa_Doms_c1) (by rfl) (by exact hrun), asInt_i]
        exact step c' (hm c' hc')
end
end Go.Proofs.Ytknphnmhjmejaaa
/-  The walk of immediate dominators: one turn over the blocks. No conditions. -/
namespace Go.Proofs.Ytknphnmhjmejaaa
set_option linter.unusedVariables false
theorem sum_le {f g : Nat → Nat} : ∀ l : List Nat, (∀ y ∈ l, f y ≤ g y) → (l.map f).sum ≤ (l.map g).sum
  | [], _ => by simp
  | x :: l, h => by
    have := sum_le l fun y hy => h y (by simp [hy])
    have := h x (by simp)
    simp only [List.map_cons, List.sum_cons]
    omega
theorem sum_lt {f g : Nat → Nat} {x : Nat} (hx : f x < g x) : ∀ l : List Nat, (∀ y ∈ l, f y ≤ g y) → x ∈ l → (l.map f).sum < (l.map g).sum
  | [], _, h => by cases h
  | y :: l, h, hm => by
    have h1 := sum_le l fun y hy => h y (by simp [hy])
    have h2 := h y (by simp)
    simp only [List.map_cons, List.sum_cons]
    rcases List.mem_cons.1 hm with rfl | hm
    · omega
    · have := sum_lt hx l (fun y hy => h y (by simp [hy])) hm
      omega
def phv (G : Gr) (par : Par) (x : Nat) : Nat := match par x with | some y => G.num y + 1 | none => 0
def phi (G : Gr) (P : List Nat) (par : Par) : Nat := (P.map (phv G par)).sum
theorem phi_upd {G : Gr} {P : List Nat} {par : Par} {y c : Nat} (hy : y ∈ P) (h : ∀ q, par y = some q → G.num q < G.num c) : phi G P par < phi G P (upd par y c) := by
  refine sum_lt (x := y) ?_ P (fun z hz => ?_) hy
  · unfold phv
    rw [upd_same]
    cases hq : par y with
    | none => simp
    | some q => have := h q hq; simp; omega
  · by_cases e : z = y
    · subst e
      unfold phv
      rw [upd_same]
      cases hq : par z with
      | none => simp
      | some q => have := h q hq; simp; omega
    · unfold phv
      rw [upd_ne e]
      exact Nat.le_refl _
section
variable {G : Gr} {P : List Nat} {n : Nat} {par : Par} {h : Hp}
theorem Acc.known {l : List Nat} {d : Int} (a : Acc G par l d) (hk : ∃ p ∈ l, par p ≠ none) : ∃ c : Nat, d = c ∧ Nd G par c ∧ ∀ e, Anc par c e ↔ ∀ p ∈ l, par p ≠ none → Anc par p e := by
  rcases a with ⟨_, h2⟩ | h
  · obtain ⟨p, hp, hs⟩ := hk
    exact absurd (h2 p hp) hs
  · exact h
/-- What lies where in a turn. -/
structure DW (P : List Nat) (n : Nat) (post : RV) (cs : List AV) (fo bo : Nat) (fl : Bool) (par : Par) (h : Hp) : Prop where
  d : DH P n par h
  o0 : h[0]? = some ⟨0, 1, cs⟩
  o5 : h[5]? = some ⟨0, 1, [.func id_ssa_Doms_c1 [] [.ptr 2 0 0, .ptr 4 0 0]]⟩
  of : h[fo]? = some ⟨0, 1, [ab fl]⟩
  f6 : 6 ≤ fo
  ob : h[bo]? = some ⟨0, 1, [.rv post]⟩
  b6 : 6 ≤ bo
  ne : fo ≠ bo
theorem DW.put {post : RV} {cs : List AV} {fo bo : Nat} {fl : Bool} (w : DW P n post cs fo bo fl par h) {b c : Nat} (hb : b < n) :
    DW P n post cs fo bo true (upd par b c) ((h.set 3 ⟨0, 1, ((dl par n).map ai).set b (ai c)⟩).set fo ⟨0, 1, [ab true]⟩) := by
  have hf := w.f6
  have hbo := w.b6
  have e3 : ((dl par n).map ai).set b (ai c) = (dl (upd par b c) n).map ai := by
    rw [← dl_set hb, List.map_set]
  rw [e3]
  have o3 : (h.set 3 ⟨0, 1, (dl (upd par b c) n).map ai⟩)[fo]? = some ⟨0, 1, [ab fl]⟩ := get_set_ne (by omega) w.of
  exact ⟨⟨get_set_ne (by omega) (get_set_ne (by omega) w.d.o1), get_set_ne (by omega) (get_set_ne (by omega) w.d.o2), get_set_ne (by omega) (get_set_eq w.d.o3), get_set_ne (by omega) (get_set_ne (by omega) w.d.o4)⟩,
    get_set_ne (by omega) (get_set_ne (by omega) w.o0), get_set_ne (by omega) (get_set_ne (by omega) w.o5), get_set_eq o3, hf, get_set_ne w.ne (get_set_ne (by omega) w.ob), hbo, w.ne⟩
structure Turn (G : Gr) (P : List Nat) (par0 par : Par) (fl : Bool) (v : Nat) : Prop where
  K : Kept G par v
  hN : ∀ x, par x ≠ none → G.N x
  same : fl = false → par = par0 ∧ ∀ y, G.N y → y ≠ 0 → v ≤ G.num y → ∃ c, par y = some c ∧ IsMeet G par y c
  more : fl = true → phi G P par0 < phi G P par
theorem Turn.keep {par0 : Par} {fl : Bool} {v : Nat} (t : Turn G P par0 par fl v) {y c : Nat} (y0 : y ≠ 0) (hy : G.N y) (hv : v = G.num y + 1) (m : IsMeet G par y c) (hc : par y = some c) : Turn G P par0 par fl (G.num y) := by
  have hu : upd par y c = par := by
    funext x
    unfold upd
    split
    · rename_i e; rw [e, hc]
    · rfl
  have hk := t.K.next hv (t.K.put y0 hy hv m)
  rw [hu] at hk
  refine ⟨hk, t.hN, fun hf => ⟨(t.same hf).1, fun z hz z0 hzv => ?_⟩, t.more⟩
  by_cases e : z = y
  · subst e
    exact ⟨c, hc, m⟩
  · have : G.num z ≠ G.num y := fun h => e (G.inj z y hz hy h)
    exact (t.same hf).2 z hz z0 (by omega)
theorem Turn.put {par0 : Par} {fl : Bool} {v : Nat} (hmem : ∀ x, G.N x ↔ x ∈ P) (t : Turn G P par0 par fl v) {y c : Nat} (y0 : y ≠ 0) (hy : G.N y) (hv : v = G.num y + 1) (m : IsMeet G par y c) (hc : par y ≠ some c) : Turn G P par0 (upd par y c) true (G.num y) := by
  have u := t.K.put y0 hy hv m
  have hphi : phi G P par < phi G P (upd par y c) := phi_upd ((hmem y).1 hy) fun q hq => (t.K.rises u hq).resolve_left fun e => hc (e ▸ hq)
  refine ⟨t.K.next hv u, fun x hx => ?_, fun h => (by cases h), fun _ => ?_⟩
  · by_cases e : x = y
    · rw [e]; exact hy
    · rw [upd_ne e] at hx; exact t.hN x hx
  · cases fl with
    | true => have := t.more rfl; omega
    | false => rw [← (t.same rfl).1]; exact hphi
/-- One turn, from the last block of the order to its first. -/
theorem turn_loop {bs : List Blk} (g : GrP G P bs.length) (hpr : G.pr = prd bs) (hl : bs.length ≤ 4096) (hpreds : ∀ (x : Nat) (b : Blk), bs[x]? = some b → ∀ z ∈ b.preds, ∃ q : Nat, z = q ∧ q < bs.length) (h0m : G.num 0 + 1 = P.length)
    {post p r v b : RV} (hpost : IsInts post (P.map Int.ofNat)) (hb : IsRows 6 IsBlk b bs) {par0 : Par} {fo bo : Nat} (kk N1 M1 : Nat) (hkk : kk = big) (y1 y54 : AV) (Q : Option (ARes × Hp) → Prop)
    (next : ∀ par fl h, Turn G P par0 par fl 0 → DW P bs.length post [.rv p, .rv r, .rv v, .rv b] fo bo fl par h → Q (ssa_Doms_b261414 kk N1 M1 0 (.ptr bo 0 0) y1 (.ptr 0 0 0) (.ptr 4 0 0) (.ptr 5 0 0) (.ptr fo 0 0) y54 h)) :
    ∀ (N : Nat) (par : Par) (fl : Bool) (h : Hp), N ≤ P.length → Turn G P par0 par fl (min N (G.num 0)) → DW P bs.length post [.rv p, .rv r, .rv v, .rv b] fo bo fl par h →
      Q (ssa_Doms_b261414 kk N1 M1 N (.ptr bo 0 0) y1 (.ptr 0 0 0) (.ptr 4 0 0) (.ptr 5 0 0) (.ptr fo 0 0) y54 h) := by
  intro N
  induction N with
  | zero =>
    intro par fl h _ t w
    rw [Nat.zero_min] at t
    exact next par fl h t w
  | succ N ih =>
    intro par fl h hN t w
    have hNl : N < P.length := by omega
    have hyP : P[N] ∈ P := List.getElem_mem hNl
    have hnum : G.num P[N] = N := by rw [g.num]; exact List.Nodup.idxOf_getElem g.nd N hNl
    have hyl := g.lt _ hyP
    have hat : N < (P.map Int.ofNat).length := by simpa using hNl
    have hval : (P.map Int.ofNat)[N] = ((P[N] : Nat) : Int) := by simp
    rw [ssa_Doms_b261414_eq, ldv_at w.ob (by rfl), hpost.at hat, hval]
    by_cases h0 : P[N] = 0
    · rw [bsp_of (by simpa using h0)]
      have hN0 : N = G.num 0 := by rw [← hnum, h0]
      refine ih par fl h (by omega) ?_ w
      rw [show min (N + 1) (G.num 0) = min N (G.num 0) by omega] at t
      exact t
    · have hlt0 := G.top P[N] ((g.mem _).2 hyP) h0
      obtain ⟨a, q, s, tt, rest', k1, k2, k3, k4, hbx⟩ := blk_at (R := ARes × Hp) hb hyl
      rw [bsp_not (by simpa using h0), pad_ptr, ldv_at w.o0 (by rfl), hbx, pad_rop3, ldv_rop, k2.len]
      have tK := t.K
      refine preds_loop g hl tK.k t.hN w.d w.o5 kk N1 M1 N _ y1 _ _ _ _ y54 (.ptr fo 0 0) P[N] _ k2 (hpreds _ _ (List.getElem?_eq_getElem hyl)) Q (fun e ha => ?_) bs[P[N]].preds.length 0 kk (-1) (by omega) ?_ (.inl ⟨rfl, by simp⟩)
      · have hz : G.num P[N] = N := hnum
        have hv : min (N + 1) (G.num 0) = G.num P[N] + 1 := by omega
        rw [hv] at t
        have htp := G.tp P[N] ((g.mem _).2 hyP) h0
        have hbp : bs[P[N]].preds.map Int.toNat = G.pr P[N] := by rw [hpr, prd_at hyl]
        rw [hbp] at ha
        obtain ⟨c, rfl, hc, hm⟩ := ha.known ⟨_, htp.1, t.K.was _ (G.pin _ ((g.mem _).2 hyP) _ htp.1) (by omega)⟩
        have hmin : min N (G.num 0) = G.num P[N] := by omega
        rw [ssa_Doms_p8365271_eq, w.d.dom hyl]
        by_cases hcp : par P[N] = some c
        · rw [dlv_some hcp, bsp_not (by simp)]
          exact ih par fl h (by omega) (by rw [hmin]; exact t.keep h0 ((g.mem _).2 hyP) rfl hm hcp) w
        · have hne : ((c : Int) != dlv par P[N]) = true := by
            rw [bne_iff_ne]
            intro e
            unfold dlv at e
            split at e
            · rename_i z hz
              exact hcp (by rw [hz]; congr 1; omega)
            · omega
          rw [bsp_of hne, ldv_at w.d.o4 (by rfl), sl_at hyl, stv_at w.d.o3 (by simp [dl_len]; exact hyl) (by rfl) (by rfl)]
          have w2 := w.put (b := P[N]) (c := c) hyl
          have o3 : (h.set 3 ⟨0, 1, ((dl par bs.length).map ai).set P[N] (ai c)⟩)[fo]? = some ⟨0, 1, [ab fl]⟩ := get_set_ne (by have := w.f6; omega) w.of
          rw [stv_at o3 (by simp) (by rfl) (by rfl)]
          exact ih _ true _ (by omega) (by rw [hmin]; exact t.put g.mem h0 ((g.mem _).2 hyP) rfl hm hcp) w2
      · have := k2.short
        rw [hkk, big_val]
        omega
end
end Go.Proofs.Ytknphnmhjmejaaa
/-  The walk of immediate dominators: turn upon turn, until nothing turns. No conditions. -/
namespace Go.Proofs.Ytknphnmhjmejaaa
set_option linter.unusedVariables false
theorem sum_bound {f : Nat → Nat} {c : Nat} : ∀ l : List Nat, (∀ y ∈ l, f y ≤ c) → (l.map f).sum ≤ l.length * c
  | [], _ => by simp
  | x :: l, h => by
    have h1 := sum_bound l fun y hy => h y (by simp [hy])
    have h2 := h x (by simp)
    simp only [List.map_cons, List.sum_cons, List.length_cons, Nat.add_mul]
    omega
theorem ints_vcells {l : RV} {xs : List Int} (k : IsInts l xs) : vcells (.rv l) = some [.rv l] := by
  cases k <;> rfl
section
variable {G : Gr} {P : List Nat} {n : Nat} {par : Par} {h : Hp}
theorem phi_le (g : GrP G P n) (k : Inv G par) : phi G P par ≤ P.length * P.length := by
  refine sum_bound P fun x hx => ?_
  unfold phv
  split
  · rename_i y hy
    have hN : G.N y := by
      by_cases e : x = 0
      · subst e
        rw [k.root] at hy
        cases hy
        exact G.n0
      · exact (k.up x y e hy).2.1
    rw [g.num]
    exact List.idxOf_lt_length_iff.2 ((g.mem y).1 hN)
  · exact Nat.zero_le _
/-- What is so when nothing turns any more. -/
structure Done (G : Gr) (par : Par) : Prop where
  k : Inv G par
  hN : ∀ x, par x ≠ none → G.N x
  all : ∀ b, G.N b → par b ≠ none
  fix : ∀ b q, G.N b → b ≠ 0 → par b = some q → IsMeet G par b q
theorem pass_loop {bs : List Blk} (g : GrP G P bs.length) (hpr : G.pr = prd bs) (hl : bs.length ≤ 4096) (hpreds : ∀ (x : Nat) (b : Blk), bs[x]? = some b → ∀ z ∈ b.preds, ∃ q : Nat, z = q ∧ q < bs.length) (h0m : G.num 0 + 1 = P.length)
    {post p r v b : RV} (hpost : IsInts post (P.map Int.ofNat)) (hb : IsRows 6 IsBlk b bs) (kk M1 : Nat) (hkk : kk = big) :
    ∀ (w N : Nat) (par : Par) (fo : Nat) (h : Hp), P.length * P.length - phi G P par ≤ w → w + 1 < N → Kept G par (G.num 0) → (∀ x, par x ≠ none → G.N x) → DH P bs.length par h → h[0]? = some ⟨0, 1, [.rv p, .rv r, .rv v, .rv b]⟩ →
      h[5]? = some ⟨0, 1, [.func id_ssa_Doms_c1 [] [.ptr 2 0 0, .ptr 4 0 0]]⟩ → h[fo]? = some ⟨0, 1, [ab true]⟩ → 6 ≤ fo →
      ∃ par' h', Done G par' ∧ DH P bs.length par' h' ∧ ssa_Doms_l4084 kk N M1 (.rv post) (.ptr 0 0 0) (.ptr 4 0 0) (.ptr 5 0 0) (.ptr fo 0 0) h = ssa_Doms_p511 kk (.ptr 4 0 0) h' := by
  intro w
  induction w using Nat.strongRecOn with
  | _ w ih =>
    intro N par fo h hw hN K hNn d o0 o5 of f6
    obtain ⟨N, rfl⟩ : ∃ q, N = q + 1 := ⟨N - 1, by omega⟩
    have hfl := get_lt of
    have hbk : ∀ h : Hp, G_slices_Backward_int [.rv post] h = some (.ret (.func id_slices_Backward_c1_int [] [.ptr h.length 0 0]), h ++ [⟨0, 1, [.rv post]⟩]) := by
      intro h
      unfold G_slices_Backward_int
      rw [slices_Backward_int_eq, ints_vcells hpost]
      rfl
    have hrf : ∀ {R : Type} (x : AV) (K : AV → Option R), rfA ssa_Doms_G (.func id_slices_Backward_c1_int [] [x]) K = K x := fun x K => rfl
    have hbn : ∀ {R : Type} (K : Nat → Option R), bkn (.rv post) K = K P.length := by
      intro R K
      have hs := hpost.short
      unfold bkn
      rw [hpost.len, if_pos (by unfold room; omega)]
      simp
    rw [ssa_Doms_l4084_eq, ldb_at of (by rfl), bsp_of rfl, stv_at of (by simp) (by rfl) (by rfl), callG_ret (hbk _), hrf, ldv_at (get_new _) (by rfl), hbn]
    have hmin : min P.length (G.num 0) = G.num 0 := by omega
    refine turn_loop (p := p) (r := r) (v := v) (par0 := par) (fo := fo) (bo := (h.set fo ⟨0, 1, [ab false]⟩).length) g hpr hl hpreds h0m hpost hb kk N M1 hkk _ _ (fun o => ∃ par' h', Done G par' ∧ DH P bs.length par' h' ∧ o = ssa_Doms_p511 kk (.ptr 4 0 0) h') (fun par2 fl2 h2 t2 w2 => ?_) P.length par false _ (Nat.le_refl _) ?_ ?_
    · have o6 : (h2 ++ [⟨0, 1, [ab fl2]⟩])[h2.length]? = some ⟨0, 1, [ab fl2]⟩ := get_new _
      have hst : stv 1 (h2 ++ [⟨0, 1, [.rv (.bool false)]⟩]) (.ptr h2.length 0 0) (.rv (.bool fl2)) = fun (K : Hp → Option (ARes × Hp)) => K (h2 ++ [⟨0, 1, [ab fl2]⟩]) := by
        funext K
        rw [stv_at (get_new _) (by simp) (by rfl) (by rfl)]
        simp
      have hl6 : 6 ≤ h2.length := Nat.le_of_lt (Nat.lt_of_le_of_lt w2.b6 (get_lt w2.ob))
      have d2 : DH P bs.length par2 (h2 ++ [⟨0, 1, [ab fl2]⟩]) := ⟨get_old w2.d.o1 _, get_old w2.d.o2 _, get_old w2.d.o3 _, get_old w2.d.o4 _⟩
      rw [ssa_Doms_b261414_nil, ldb_at w2.of (by rfl)]
      simp only [nwc, hst]
      cases fl2 with
      | false =>
        obtain ⟨N, rfl⟩ : ∃ q, N = q + 1 := ⟨N - 1, by omega⟩
        refine ⟨par2, _, ⟨t2.K.k, t2.hN, fun b hb => t2.K.was b hb (Nat.zero_le _), fun b q hb b0 hq => ?_⟩, d2, ?_⟩
        · obtain ⟨c, h1, h2⟩ := (t2.same rfl).2 b hb b0 (Nat.zero_le _)
          rw [h1] at hq
          cases hq
          exact h2
        · rw [ssa_Doms_l4084_eq, ldb_at o6 (by rfl), bsp_not rfl]
      | true =>
        have h1 := t2.more rfl
        have h3 := phi_le g t2.K.k
        exact ih (P.length * P.length - phi G P par2) (by omega) N par2 _ _ (Nat.le_refl _) (by omega) (t2.K.again rfl) t2.hN d2 (get_old w2.o0 _) (get_old w2.o5 _) o6 hl6
    · rw [hmin]
      refine ⟨K, hNn, fun _ => ⟨rfl, fun y hy y0 h => ?_⟩, fun h => (by cases h)⟩
      have := G.top y hy y0
      omega
    · exact ⟨⟨get_old (get_set_ne (by omega) d.o1) _, get_old (get_set_ne (by omega) d.o2) _, get_old (get_set_ne (by omega) d.o3) _, get_old (get_set_ne (by omega) d.o4) _⟩, get_old (get_set_ne (by omega) o0) _, get_old (get_set_ne (by omega) o5) _, get_old (get_set_eq of) _, f6, get_new _, by simp; omega, by simp; omega⟩
end
end Go.Proofs.Ytknphnmhjmejaaa
/-  The walk of immediate dominators: how it begins and ends. No conditions. -/
namespace Go.Proofs.Ytknphnmhjmejaaa
set_option linter.unusedVariables false
/-- A list of which the first are -1. -/
def neg1 (k n : Nat) : List Int := List.replicate k (-1) ++ List.replicate (n - k) 0
theorem neg1_set {k n : Nat} (h : k < n) : (neg1 k n).set k (-1) = neg1 (k + 1) n := by
  apply List.ext_getElem?
  intro i
  unfold neg1
  rw [List.getElem?_set]
  simp only [List.length_append, List.length_replicate, List.getElem?_append, List.getElem?_replicate]
  by_cases e : k = i
  · subst e
    simp
    omega
  · simp only [if_neg e]
    by_cases h1 : i < k
    · simp only [h1, show i < k + 1 by omega, if_true]
    · simp only [h1, show ¬ i < k + 1 by omega, if_false]
      by_cases h2 : i < n
      · simp only [show i - k < n - k by omega, show i - (k + 1) < n - (k + 1) by omega, if_true]
      · simp only [show ¬ i - k < n - k by omega, show ¬ i - (k + 1) < n - (k + 1) by omega, if_false]
theorem neg1_len {k n : Nat} (h : k ≤ n) : (neg1 k n).length = n := by
  simp [neg1]; omega
/-- What lies where while all begins. -/
structure DB (n : Nat) (a b : List Int) (h : Hp) : Prop where
  o1 : h[1]? = some ⟨0, 1, a.map ai⟩
  o2 : h[2]? = some ⟨0, 1, [.sl 1 0 0 n]⟩
  o3 : h[3]? = some ⟨0, 1, b.map ai⟩
  o4 : h[4]? = some ⟨0, 1, [.sl 3 0 0 n]⟩
theorem sv1_at {R : Type} {h : Hp} {o v e off : Nat} {cs : List AV} {x : AV} (ho : h[o]? = some ⟨v, e, cs⟩) (hx : cs[off]? = some x) (K : Option R) : sv1 h (.ptr o v off) x K = K := by
  unfold sv1
  rw [if_pos]
  simp [cellAt, ho, hx]
theorem init_loop {n : Nat} (hn : n ≤ 4096) (kk M : Nat) (x1 p1 : AV) (o0 : Option Ob) (Q : Option (ARes × Hp) → Prop)
    (next : ∀ h, h.length = 5 → h[0]? = o0 → DB n (neg1 n n) (neg1 n n) h → Q (ssa_Doms_p31 kk x1 p1 (.ptr 2 0 0) (.ptr 4 0 0) h)) :
    ∀ (m i N : Nat) (h : Hp), i + m = n → m < N → h.length = 5 → h[0]? = o0 → DB n (neg1 i n) (neg1 i n) h → Q (ssa_Doms_l244 kk N M x1 p1 (.ptr 2 0 0) (.ptr 4 0 0) n i h) := by
  intro m
  induction m with
  | zero =>
    intro i N h hi hN hlen h0 d
    obtain ⟨N, rfl⟩ : ∃ q, N = q + 1 := ⟨N - 1, by omega⟩
    have : i = n := by omega
    subst this
    rw [ssa_Doms_l244_eq, bsp_not (decide_eq_false (by omega))]
    exact next h hlen h0 d
  | succ m ih =>
    intro i N h hi hN hlen h0 d
    obtain ⟨N, rfl⟩ : ∃ q, N = q + 1 := ⟨N - 1, by omega⟩
    have hin : i < n := by omega
    have e1 : ((neg1 i n).map ai).set i (ai (-1)) = (neg1 (i + 1) n).map ai := by
      rw [← neg1_set hin, List.map_set]
    have hl : i < ((neg1 i n).map ai).length := by rw [List.length_map, neg1_len (by omega)]; exact hin
    rw [ssa_Doms_l244_eq, bsp_of (decide_eq_true (by omega)), ldv_at d.o2 (by rfl), ldv_at d.o4 (by rfl), sl_at hin, stv_at d.o1 hl (by rfl) (by rfl), e1]
    have k4 : (h.set 1 ⟨0, 1, (neg1 (i + 1) n).map ai⟩)[4]? = some ⟨0, 1, [.sl 3 0 0 n]⟩ := get_set_ne (by omega) d.o4
    have k3 : (h.set 1 ⟨0, 1, (neg1 (i + 1) n).map ai⟩)[3]? = some ⟨0, 1, (neg1 i n).map ai⟩ := get_set_ne (by omega) d.o3
    rw [sv1_at k4 (by rfl), sl_at hin, stv_at k3 hl (by rfl) (by rfl), e1, wri_succ (by omega)]
    refine ih (i + 1) N _ (by omega) (by omega) (by simp [hlen]) ?_ ⟨get_set_ne (by omega) (get_set_eq d.o1), get_set_ne (by omega) (get_set_ne (by omega) d.o2), get_set_eq k3, get_set_ne (by omega) k4⟩
    rw [List.getElem?_set_ne (by omega), List.getElem?_set_ne (by omega)]
    exact h0
theorem neg1_rks (P : List Nat) (n : Nat) : neg1 n n = rks P 0 n := by
  apply List.ext_getElem?
  intro i
  by_cases hi : i < n
  · rw [rks_at hi]
    simp [neg1, rk, hi]
  · rw [List.getElem?_eq_none (by rw [neg1_len (Nat.le_refl _)]; omega), List.getElem?_eq_none (by rw [rks_len]; omega)]
theorem rank_loop {P : List Nat} {n : Nat} (hnd : P.Nodup) (hlt : ∀ x ∈ P, x < n) {post : RV} (hpost : IsInts post (P.map Int.ofNat)) (b : List Int) (kk M : Nat) (p1 : AV) (o0 : Option Ob) (Q : Option (ARes × Hp) → Prop)
    (next : ∀ h, h.length = 5 → h[0]? = o0 → DB n (rks P P.length n) b h → Q (ssa_Doms_p63 kk (.rv post) p1 (.ptr 2 0 0) (.ptr 4 0 0) h)) :
    ∀ (m i N : Nat) (h : Hp), i + m = P.length → m < N → h.length = 5 → h[0]? = o0 → DB n (rks P i n) b h → Q (ssa_Doms_l500 kk N M (.rv post) p1 (.ptr 2 0 0) (.ptr 4 0 0) (.rv post) P.length i h) := by
  have hsh := hpost.short
  rw [List.length_map] at hsh
  intro m
  induction m with
  | zero =>
    intro i N h hi hN hlen h0 d
    obtain ⟨N, rfl⟩ : ∃ q, N = q + 1 := ⟨N - 1, by omega⟩
    have : i = P.length := by omega
    subst this
    rw [ssa_Doms_l500_eq, bsp_not (decide_eq_false (by omega))]
    exact next h hlen h0 d
  | succ m ih =>
    intro i N h hi hN hlen h0 d
    obtain ⟨N, rfl⟩ : ∃ q, N = q + 1 := ⟨N - 1, by omega⟩
    have hil : i < P.length := by omega
    have hat : i < (P.map Int.ofNat).length := by simpa using hil
    have hval : (P.map Int.ofNat)[i] = ((P[i] : Nat) : Int) := by simp
    have hxl := hlt _ (List.getElem_mem hil)
    have e1 : ((rks P i n).map ai).set P[i] (ai i) = (rks P (i + 1) n).map ai := by
      rw [← rks_set hnd hil hxl, List.map_set]
    rw [ssa_Doms_l500_eq, bsp_of (decide_eq_true (by omega)), hpost.at hat, hval, ldv_at d.o2 (by rfl), sl_at hxl, stv_at d.o1 (by rw [List.length_map, rks_len]; exact hxl) (by rfl) (by rfl), e1, wri_succ (by omega)]
    refine ih (i + 1) N _ (by omega) (by omega) (by simp [hlen]) ?_ ⟨get_set_eq d.o1, get_set_ne (by omega) d.o2, get_set_ne (by omega) d.o3, get_set_ne (by omega) d.o4⟩
    rw [List.getElem?_set_ne (by omega)]
    exact h0
end Go.Proofs.Ytknphnmhjmejaaa
