/-  What the law FlowPost tells: true, whatever the list of codes. No conditions. -/
import Derived.Test.YtknphnmhjmejaaaHh
import Derived.Test.YtknphnmhjmejaaaFd
import Derived.Test.YtknphnmhjmejaaaFc
namespace Go.Proofs.Ytknphnmhjmejaaa
set_option linter.unusedVariables false
/-- It tells that it holds. -/
def TR (o : Option (ARes × Hp)) : Prop := ∃ h, o = some (.ret (ab true), h)
/-- The place of a block in a part of the order; -1: none. -/
def rk (P : List Nat) (k x : Nat) : Int := if x ∈ P.take k then (P.idxOf x : Int) else -1
def rks (P : List Nat) (k n : Nat) : List Int := (List.range n).map (rk P k)
theorem rks_len (P : List Nat) (k n : Nat) : (rks P k n).length = n := by simp [rks]
theorem rks_at {P : List Nat} {k n x : Nat} (hx : x < n) : (rks P k n)[x]? = some (rk P k x) := by
  simp [rks, hx]
theorem idxOf_at {P : List Nat} (hnd : P.Nodup) {k : Nat} (hk : k < P.length) : P.idxOf P[k] = k := List.Nodup.idxOf_getElem hnd k hk
theorem rks_set {P : List Nat} (hnd : P.Nodup) {k n : Nat} (hk : k < P.length) (hn : P[k] < n) : (rks P k n).set P[k] (k : Int) = rks P (k + 1) n := by
  apply List.ext_getElem?
  intro i
  by_cases hi : i < n
  · rw [rks_at hi, List.getElem?_set]
    by_cases e : P[k] = i
    · rw [if_pos e, if_pos (by rw [rks_len]; exact hn)]
      unfold rk
      rw [if_pos (by rw [← e, List.take_add_one, List.getElem?_eq_getElem hk]; exact List.mem_append_right _ (by simp)), ← e, idxOf_at hnd hk]
    · rw [if_neg e, rks_at hi]
      unfold rk
      rw [List.take_add_one, List.getElem?_eq_getElem hk]
      simp only [List.mem_append, Option.toList_some, List.mem_singleton]
      by_cases h : i ∈ P.take k
      · simp [h]
      · have : ¬ i = P[k] := fun h => e h.symm
        simp [h, this]
  · rw [List.getElem?_eq_none (by simp [rks_len]; omega), List.getElem?_eq_none (by rw [rks_len]; omega)]
theorem rk_new {P : List Nat} (hnd : P.Nodup) {k : Nat} (hk : k < P.length) : rk P k P[k] = -1 := by
  unfold rk
  rw [if_neg]
  intro h
  obtain ⟨j, hj, e⟩ := List.getElem_of_mem h
  rw [List.getElem_take] at e
  have hj' : j < k ∧ j < P.length := by rw [List.length_take] at hj; omega
  have := (List.getElem_inj hnd).1 e
  omega
theorem rk_all {P : List Nat} {x : Nat} (hx : x ∈ P) : rk P P.length x = P.idxOf x := by
  unfold rk
  rw [List.take_length, if_pos hx]
theorem IsPost.back {bs : List Blk} {P : List Nat} (hP : IsPost bs P) {x y : Nat} (hx : x ∈ P) (hy : y ∈ sucs bs x) (h : P.idxOf x < P.idxOf y) : Way (sucs bs) y x := by
  have hyP : y ∈ P := (hP.mem y).2 (.step ((hP.mem x).1 hx) hy)
  obtain ⟨S, h1⟩ := hP
  obtain ⟨N, Q, k⟩ := h1.found
  have e : Q = P := by rw [k.p]; rfl
  subst e
  have hnd : Q.Nodup := k.qd
  have hlx : Q.idxOf x < Q.length := List.idxOf_lt_length_iff.2 hx
  have hly : Q.idxOf y < Q.length := List.idxOf_lt_length_iff.2 hyP
  have hsplit : Q = Q.take (Q.idxOf x) ++ x :: Q.drop (Q.idxOf x + 1) := by
    conv => lhs; rw [← List.take_append_drop (Q.idxOf x) Q, List.drop_eq_getElem_cons hlx, List.getElem_idxOf hlx]
  refine k.back _ _ x hsplit y hy ?_
  rw [List.mem_iff_getElem]
  refine ⟨Q.idxOf y - (Q.idxOf x + 1), by simp; omega, ?_⟩
  rw [List.getElem_drop]
  have : Q.idxOf x + 1 + (Q.idxOf y - (Q.idxOf x + 1)) = Q.idxOf y := by omega
  simp only [this]
  exact List.getElem_idxOf hly
theorem IsPost.last {bs : List Blk} {P : List Nat} (hP : IsPost bs P) : ∃ P0, P = P0 ++ [0] := by
  obtain ⟨S, h⟩ := hP
  cases h with
  | seen h => simp at h
  | go _ r1 r2 =>
    obtain ⟨rfl, rfl⟩ := r2.nil_inv
    exact ⟨_, rfl⟩
theorem post_kind {bs : List Blk} {P : List Nat} (hf : formOk bs = true) (hq : FlowOk bs) (hP : IsPost bs P) {x : Nat} {b : Blk} (hb : bs[x]? = some b) : x ∈ P ↔ b.kind ≠ 0 := by
  have hl : 0 < bs.length := by
    simp only [formOk, Bool.and_eq_true, decide_eq_true_eq] at hf
    exact hf.1.1
  have hok := formOk_succs hf
  constructor
  · intro hx
    have w := (hP.mem x).1 hx
    cases w with
    | refl => exact (hq.head b hb).1
    | @step y _ w e =>
      have hyl := w.lt (sucs_lt hok) hl
      rw [sucs_at hyl, List.mem_map] at e
      obtain ⟨n, hn, rfl⟩ := e
      obtain ⟨m, c, rfl, hc, hk⟩ := (blkOk_nums (formOk_mem hf (List.mem_of_getElem? (List.getElem?_eq_getElem hyl)))).2 n hn
      rw [Int.toNat_natCast] at hb
      rw [hb] at hc
      cases hc
      exact hk
  · intro hk
    exact (hP.mem x).2 ((way_rch hok hl).2 (hq.reach x b hb hk))
section
variable {X : RV} {ds : List Cd} {x4 : RV} {P : List Nat} {i : Nat}
theorem cd_read {l : RV} {ds : List Cd} (k : IsRows 4 IsCd l ds) {i : Nat} (hi : i < ds.length) : ∃ p r v b rest, IsCd [p, r, v, b] ds[i] ∧ IsRows 6 IsBlk b ds[i].blocks ∧ ∀ {R : Type} (K : AV → Option R), ixa 4 (.rv l) i K = K (.rv (.rop (p :: r :: v :: b :: rest))) := by
  cases k with
  | nil => simp at hi
  | mk r hl =>
    obtain ⟨c, rest, h1, h2, h3⟩ := r.at hi
    have h4 := h3
    obtain ⟨p, r, v, b, rfl, _, _, _, hb⟩ := h3
    refine ⟨p, r, v, b, rest, h4, hb, fun K => ?_⟩
    have : ((i : Int) < ds.length) := by omega
    simp [ixa, hi, h1]
theorem FP_inner (hX : IsRows 4 IsCd X ds) (hi : i < ds.length) (hf : formOk ds[i].blocks = true) (hq : FlowOk ds[i].blocks) (hP : IsPost ds[i].blocks P) {ro : Nat} (k N M N2 M2 M3 : Nat) (hk : 1000000000 < k) (q : Nat) (c : Int) (hql : q < ds[i].blocks.length) (hqP : q ∈ P) {sv : RV} (hsv : IsInts sv ds[i].blocks[q].succs)
    (outer : ∀ h, h[ro]? = some ⟨0, 1, (rks P P.length ds[i].blocks.length).map ai⟩ → TR (w13_FlowPost_p3448787 k N M N2 M2 (.rv X) i (.rv x4) (.sl ro 0 0 ds[i].blocks.length) c q h)) :
    ∀ (m j N3 : Nat) (h : Hp), j + m = ds[i].blocks[q].succs.length → m < N3 → h[ro]? = some ⟨0, 1, (rks P P.length ds[i].blocks.length).map ai⟩ →
      TR (w13_FlowPost_l220722332 k N M N2 M2 N3 M3 (.rv X) i (.rv x4) (.sl ro 0 0 ds[i].blocks.length) c q (.rv sv) j h) := by
  have hs := hsv.short
  have hok := formOk_succs hf
  have hl : 0 < ds[i].blocks.length ∧ ds[i].blocks.length ≤ 4096 := by
    simp only [formOk, Bool.and_eq_true, decide_eq_true_eq] at hf
    exact hf.1
  intro m
  induction m with
  | zero =>
    intro j N3 h hj hN ho
    obtain ⟨N3, rfl⟩ : ∃ q, N3 = q + 1 := ⟨N3 - 1, by omega⟩
    rw [w13_FlowPost_l220722332_eq, hsv.len, bsp_not (decide_eq_false (by omega))]
    exact outer h ho
  | succ m ih =>
    intro j N3 h hj hN ho
    obtain ⟨N3, rfl⟩ : ∃ q, N3 = q + 1 := ⟨N3 - 1, by omega⟩
    have hjl : j < ds[i].blocks[q].succs.length := by omega
    obtain ⟨y, hy, hyl⟩ := hok q ds[i].blocks[q] (List.getElem?_eq_getElem hql) ds[i].blocks[q].succs[j] (List.getElem_mem hjl)
    have hys : y ∈ sucs ds[i].blocks q := by
      rw [sucs_at hql, List.mem_map]
      exact ⟨_, List.getElem_mem hjl, by rw [hy]; simp⟩
    have hyP : y ∈ P := (hP.mem y).2 (.step ((hP.mem q).1 hqP) hys)
    have next : ∀ h, h[ro]? = some ⟨0, 1, (rks P P.length ds[i].blocks.length).map ai⟩ → TR (w13_FlowPost_p3531557321 k N M N2 M2 N3 M3 (.rv X) i (.rv x4) (.sl ro 0 0 ds[i].blocks.length) c q (.rv sv) j false h) := by
      intro h ho
      rw [w13_FlowPost_p3531557321_eq, bsp_not rfl, wri_succ (by omega)]
      exact ih (j + 1) N3 h (by omega) (by omega) ho
    rw [w13_FlowPost_l220722332_eq, hsv.len, bsp_of (decide_eq_true (by omega)), hsv.at hjl, hy, sl_at hyl, ldi_at (n := (P.idxOf y : Int)) ho (by rw [List.getElem?_map, rks_at hyl, rk_all hyP]; rfl), sl_at hql, ldi_at (n := (P.idxOf q : Int)) ho (by rw [List.getElem?_map, rks_at hql, rk_all hqP]; rfl)]
    by_cases hgt : P.idxOf q < P.idxOf y
    · obtain ⟨p, r, v, b, rest, hcd, _, hix⟩ := cd_read hX hi
      obtain ⟨w, e, hw⟩ := reaches_spec hcd hl.2 hok hyl hql
      have : w = true := hw.2 ((way_rch hok hyl).1 (hP.back hqP hys hgt))
      subst this
      rw [bsp_of (decide_eq_true (by omega)), hix, ldg4, hsv.at hjl, hy, callP_ret (by simp [toRV, depthA]) e (.inr rfl), asBool_b]
      exact next h ho
    · rw [bsp_not (decide_eq_false (by omega))]
      exact next h ho
theorem FP_blocks (hX : IsRows 4 IsCd X ds) (hi : i < ds.length) (hf : formOk ds[i].blocks = true) (hq : FlowOk ds[i].blocks) (hP : IsPost ds[i].blocks P) (hx4 : IsInts x4 (P.map Int.ofNat)) {ro : Nat} (k N M M2 : Nat) (hk : 1000000000 < k)
    (outer : ∀ h, TR (w13_FlowPost_p211 k N M (.rv X) i h)) :
    ∀ (m j N2 : Nat) (h : Hp), j + m = ds[i].blocks.length → m < N2 → h[ro]? = some ⟨0, 1, (rks P P.length ds[i].blocks.length).map ai⟩ →
      TR (w13_FlowPost_l862196 k N M N2 M2 (.rv X) i (.rv x4) (.sl ro 0 0 ds[i].blocks.length) ((ds[i].blocks.take j).countP (fun b => b.kind == 0) : Nat) j h) := by
  have hok := formOk_succs hf
  have hl : 0 < ds[i].blocks.length ∧ ds[i].blocks.length ≤ 4096 := by
    simp only [formOk, Bool.and_eq_true, decide_eq_true_eq] at hf
    exact hf.1
  obtain ⟨hnd, hlt, hple⟩ := hP.facts hok hl.1
  obtain ⟨p, r, v, b, rest, hcd, hb, hix⟩ := cd_read hX hi
  intro m
  induction m with
  | zero =>
    intro j N2 h hj hN ho
    obtain ⟨N2, rfl⟩ : ∃ q, N2 = q + 1 := ⟨N2 - 1, by omega⟩
    obtain ⟨P0, hP0⟩ := hP.last
    have hfp := (flowP_iff hf hP).2 hq
    have hall := hfp.all
    have hpl : P.length = P0.length + 1 := by rw [hP0]; simp
    have e1 : (((P.map Int.ofNat).length : Int) == 0) = false := by rw [beq_eq_false_iff_ne, List.length_map]; omega
    have e2 : P0.length < (P.map Int.ofNat).length := by simp; omega
    have e3 : (P.map Int.ofNat)[P0.length]'e2 = 0 := by
      have : P[P0.length]? = some 0 := by rw [hP0]; simp
      have h2 : (P.map Int.ofNat)[P0.length]? = some 0 := by rw [List.getElem?_map, this]; rfl
      rw [List.getElem?_eq_getElem e2] at h2
      exact Option.some.inj h2
    rw [List.take_of_length_le (by omega), w13_FlowPost_l862196_eq, sl_len, bsp_not (decide_eq_false (by omega)), w13_FlowPost_p107775_eq, hx4.len, sl_len, List.length_map,
      wri_small (n := (P.length : Int) + (ds[i].blocks.countP (fun b => b.kind == 0) : Nat)) (by omega) (by omega), bsp_not (by rw [bne_eq_false_iff_eq]; omega)]
    rw [List.length_map] at e1
    rw [hx4.len, List.length_map, bsp_not e1, hx4.len, List.length_map, wri_small (n := (P.length : Int) - 1) (by omega) (by omega), show (P.length : Int) - 1 = (P0.length : Int) by omega, hx4.at e2, e3, w13_FlowPost_p215551_eq, bsp_not (by rfl)]
    exact outer h
  | succ m ih =>
    intro j N2 h hj hN ho
    obtain ⟨N2, rfl⟩ : ∃ q, N2 = q + 1 := ⟨N2 - 1, by omega⟩
    have hjl : j < ds[i].blocks.length := by omega
    have hle : (ds[i].blocks.take j).countP (fun b => b.kind == 0) ≤ 4096 := Nat.le_trans List.countP_le_length (by simp; omega)
    have hc : (ds[i].blocks.take (j + 1)).countP (fun b => b.kind == 0) = (ds[i].blocks.take j).countP (fun b => b.kind == 0) + if ds[i].blocks[j].kind = 0 then 1 else 0 := by
      rw [List.take_add_one, List.getElem?_eq_getElem hjl, List.countP_append]
      simp [List.countP_cons]
    obtain ⟨a, q, s, t, rest', k1, k2, k3, k4, hbx⟩ := blk_at (R := ARes × Hp) hb hjl
    have hbk : IsBlk [I ds[i].blocks[j].kind, I ds[i].blocks[j].n, a, q, s, t] ds[i].blocks[j] := ⟨a, q, s, t, rfl, k1, k2, k3, k4⟩
    have hs3 := k3.short
    rw [w13_FlowPost_l862196_eq, sl_len, bsp_of (decide_eq_true (by omega)), hix, pad_rop3, ldv_rop, hbx, ldg6, callP_ret (by simp [toRV, depthA]) (Hole_spec hbk) (.inr rfl), asBool_b]
    by_cases h0 : ds[i].blocks[j].kind = 0
    · rw [if_pos h0] at hc
      rw [bsp_of (by simpa using h0), w13_FlowPost_p3448787_eq, wri_succ (by omega), wri_succ (by omega), ← hc]
      exact ih (j + 1) N2 h (by omega) (by omega) ho
    · rw [if_neg h0] at hc
      rw [bsp_not (by simpa using h0), hix, pad_rop3, ldv_rop, hbx, pad_rop4, ldv_rop]
      refine FP_inner hX hi hf hq hP k N M N2 M2 _ hk j _ hjl ((post_kind hf hq hP (List.getElem?_eq_getElem hjl)).2 h0) k3 (fun h ho => ?_) ds[i].blocks[j].succs.length 0 k h (by omega) (by omega) ho
      rw [w13_FlowPost_p3448787_eq, wri_succ (by omega)]
      have := ih (j + 1) N2 h (by omega) (by omega) ho
      rw [hc] at this
      exact this
theorem FP_ranks (hX : IsRows 4 IsCd X ds) (hi : i < ds.length) (hf : formOk ds[i].blocks = true) (hq : FlowOk ds[i].blocks) (hP : IsPost ds[i].blocks P) (hx4 : IsInts x4 (P.map Int.ofNat)) {ro : Nat} (k N M M2 : Nat) (hk : 1000000000 < k)
    (outer : ∀ h, TR (w13_FlowPost_p211 k N M (.rv X) i h)) :
    ∀ (m j N2 : Nat) (h : Hp), j + m = P.length → m < N2 → h[ro]? = some ⟨0, 1, (rks P j ds[i].blocks.length).map ai⟩ →
      TR (w13_FlowPost_l215540 k N M N2 M2 (.rv X) i (.rv x4) (.sl ro 0 0 ds[i].blocks.length) j h) := by
  have hok := formOk_succs hf
  have hl : 0 < ds[i].blocks.length ∧ ds[i].blocks.length ≤ 4096 := by
    simp only [formOk, Bool.and_eq_true, decide_eq_true_eq] at hf
    exact hf.1
  obtain ⟨hnd, hlt, hple⟩ := hP.facts hok hl.1
  obtain ⟨p, r, v, b, rest, hcd, hb, hix⟩ := cd_read hX hi
  intro m
  induction m with
  | zero =>
    intro j N2 h hj hN ho
    obtain ⟨N2, rfl⟩ : ∃ q, N2 = q + 1 := ⟨N2 - 1, by omega⟩
    obtain rfl : j = P.length := by omega
    rw [w13_FlowPost_l215540_eq, hx4.len, List.length_map, bsp_not (decide_eq_false (by omega)), w13_FlowPost_p26943_eq]
    exact FP_blocks hX hi hf hq hP hx4 k N M h.length hk outer ds[i].blocks.length 0 k h (by omega) (by omega) ho
  | succ m ih =>
    intro j N2 h hj hN ho
    obtain ⟨N2, rfl⟩ : ∃ q, N2 = q + 1 := ⟨N2 - 1, by omega⟩
    have hjl : j < P.length := by omega
    have hjl' : j < (P.map Int.ofNat).length := by simpa using hjl
    have hpn : P[j] < ds[i].blocks.length := hlt _ (List.getElem_mem hjl)
    have e1 : (P.map Int.ofNat)[j]'hjl' = ((P[j] : Nat) : Int) := by simp
    obtain ⟨a, q, s, t, rest', k1, k2, k3, k4, hbx⟩ := blk_at (R := ARes × Hp) hb hpn
    have hbk : IsBlk [I ds[i].blocks[P[j]].kind, I ds[i].blocks[P[j]].n, a, q, s, t] ds[i].blocks[P[j]] := ⟨a, q, s, t, rfl, k1, k2, k3, k4⟩
    have hkind := (post_kind hf hq hP (List.getElem?_eq_getElem hpn)).1 (List.getElem_mem hjl)
    rw [w13_FlowPost_l215540_eq, hx4.len, List.length_map, bsp_of (decide_eq_true (by omega)), hx4.at hjl', e1, bsp_not (decide_eq_false (by omega)), hx4.at hjl', e1, sl_len, bsp_not (decide_eq_false (by omega)), hx4.at hjl', e1, sl_at hpn,
      ldi_at (n := -1) ho (by rw [List.getElem?_map, rks_at hpn, rk_new hnd hjl]; rfl), bsp_not (decide_eq_false (by omega)), hix, pad_rop3, ldv_rop, hx4.at hjl', e1, hbx, ldg6, callP_ret (by simp [toRV, depthA]) (Hole_spec hbk) (.inr rfl), asBool_b,
      w13_FlowPost_p6897297_eq, bsp_not (by simpa using hkind), hx4.at hjl', e1, sl_at hpn, stv_at ho (by simp [rks_len]; exact hpn) rfl rfl, wri_succ (by omega)]
    refine ih (j + 1) N2 _ (by omega) (by omega) ?_
    have : ((rks P j ds[i].blocks.length).map ai).set P[j] (ai j) = (rks P (j + 1) ds[i].blocks.length).map ai := by
      rw [← rks_set hnd hjl hpn, List.map_set]
    rw [this]
    exact get_set_eq ho
theorem FP_fill (k N M M2 : Nat) {n : Nat} (hn : n ≤ 4096) {ro : Nat} (outer : ∀ h, h[ro]? = some ⟨0, 1, (List.replicate n (-1)).map ai⟩ → TR (w13_FlowPost_p13471 k N M (.rv X) i (.rv x4) (.sl ro 0 0 n) h)) :
    ∀ (m j N2 : Nat) (h : Hp), j + m = n → m < N2 → h[ro]? = some ⟨0, 1, (List.replicate j (-1) ++ List.replicate m 0).map ai⟩ → TR (w13_FlowPost_l107764 k N M N2 M2 (.rv X) i (.rv x4) (.sl ro 0 0 n) j h) := by
  intro m
  induction m with
  | zero =>
    intro j N2 h hj hN ho
    obtain ⟨N2, rfl⟩ : ∃ q, N2 = q + 1 := ⟨N2 - 1, by omega⟩
    obtain rfl : j = n := by omega
    rw [w13_FlowPost_l107764_eq, sl_len, bsp_not (decide_eq_false (by omega))]
    exact outer h (by simpa using ho)
  | succ m ih =>
    intro j N2 h hj hN ho
    obtain ⟨N2, rfl⟩ : ∃ q, N2 = q + 1 := ⟨N2 - 1, by omega⟩
    rw [w13_FlowPost_l107764_eq, sl_len, bsp_of (decide_eq_true (by omega)), sl_at (by omega), stv_at ho (by simp) rfl rfl, wri_succ (by omega)]
    refine ih (j + 1) N2 _ (by omega) (by omega) ?_
    have : ((List.replicate j (-1 : Int) ++ List.replicate (m + 1) 0).map ai).set j (ai (-1)) = (List.replicate (j + 1) (-1 : Int) ++ List.replicate m 0).map ai := by
      rw [List.map_append, List.set_append_right _ _ (by simp), List.replicate_succ' (n := j)]
      simp [List.replicate_succ]
    rw [this]
    exact get_set_eq ho
theorem FP_outer (hX : IsRows 4 IsCd X ds) (k M : Nat) (hk : 1000000000 < k) : ∀ (m i N : Nat) (h : Hp), i + m = ds.length → m < N → TR (w13_FlowPost_l52 k N M (.rv X) i h) := by
  have hs := hX.short
  have fin : ∀ i N h, TR (w13_FlowPost_p209 k N M (.rv X) i false h) := by
    intro i N h
    rw [w13_FlowPost_p209_eq, bsp_not rfl, w13_FlowPost_p7_eq, callP_ret (by rfl) wakes_spec (.inr rfl), asBool_b]
    exact ⟨h, rfl⟩
  intro m
  induction m with
  | zero =>
    intro i N h hi hN
    obtain ⟨N, rfl⟩ : ∃ q, N = q + 1 := ⟨N - 1, by omega⟩
    rw [w13_FlowPost_l52_eq, hX.len, bsp_not (decide_eq_false (by omega))]
    exact fin i N h
  | succ m ih =>
    intro i N h hi hN
    obtain ⟨N, rfl⟩ : ∃ q, N = q + 1 := ⟨N - 1, by omega⟩
    have hil : i < ds.length := by omega
    rw [w13_FlowPost_l52_eq, hX.len, bsp_of (decide_eq_true (by omega))]
    by_cases h10 : i < 10
    · rw [decide_eq_true (by omega : (i : Int) < 10)]
      obtain ⟨p, r, v, b, rest, hcd, hb, hix⟩ := cd_read hX hil
      have next : ∀ h, TR (w13_FlowPost_p211 k N M (.rv X) i h) := by
        intro h
        rw [w13_FlowPost_p211_eq, wri_succ (by omega)]
        exact ih (i + 1) N h (by omega) (by omega)
      have hone := hcd
      obtain ⟨p, r, v, b, e, c1, c2, c3, c4⟩ := hone
      cases e
      have e1 : ∀ K : AV → Hp → Option (ARes × Hp), bsl 4 1 [.rv .nils, .rv .nils, .rv .nils, .rv .nils] [(some (0, 4), .agg [.rv p, .rv r, .rv v, .rv b])] h K = K (.sl h.length 0 0 1) (h ++ [⟨0, 4, [.rv p, .rv r, .rv v, .rv b]⟩]) := fun K => rfl
      have e2 : ∀ (y : AV) (K : AV → Option (ARes × Hp)), vcells y = some [y] → bld [.rv .nils, .rv .nils] [(some (0, 1), y)] K = K (.agg [y, .rv .nils]) := by
        intro y K hy
        simp [bld, fillA, hy, setAt]
      have hu : IsUt [.ros [p, r, v, b] 1, .nils] ⟨[ds[i]], 0⟩ := ⟨_, _, rfl, .mk (n := 4) (Q := IsCd) (l := [ds[i]]) (.cons (c := [p, r, v, b]) rfl hcd .nil) (by simp), .inl ⟨rfl, rfl⟩⟩
      obtain ⟨w, hw⟩ := Weight_spec hu 2000
      have hr : [AV.agg [.sl h.length 0 0 1, .rv .nils], .rv (.int .i64 2000)].mapM (toRV (h ++ [⟨0, 4, [.rv p, .rv r, .rv v, .rv b]⟩]) depthA) = some [.agg [.ros [p, r, v, b] 1, .nils], I 2000] := by
        simp [depthA, toRV]
      rw [w13_FlowPost_p209_eq, bsp_of rfl, hix, ldg4, e1, e2 _ _ rfl, callP_ret hr hw (.inr rfl), asInt_i]
      by_cases hbig : w > 2000
      · rw [bsp_of (decide_eq_true hbig)]
        exact ⟨_, rfl⟩
      · obtain ⟨cs', hc, hcd'⟩ := CopyCode_spec hcd
        rw [bsp_not (decide_eq_false hbig), hix, ldg4, callP_ret (by simp [toRV, depthA]) hc (.inl rfl)]
        have key : ∀ (x : RV) (e : Int), F_flow_Post [.agg cs'] = some (.ret (.tuple [x, I e])) → ∀ h', (callP F_flow_Post h' [.rv (.agg cs')] (fun r14 => xtr r14 0 fun v16 => xtr r14 1 fun v17 => asInt .i64 v17 fun n18 => callP F_w13_num h' [(.rv (.int .i64 n18))] (fun r19 => asInt .i64 r19 fun n21 => bsp ((n21 != 0)) (w13_FlowPost_p6733 k N M (.rv X) i v16 (true) (h')) (ixa 4 (.rv X) i fun p22 => ldg 4 h' p22 fun v23 => callP F_r13_Flow h' [v23] (fun r24 => asInt .i64 r24 fun n26 => w13_FlowPost_p6733 k N M (.rv X) i v16 ((n26 != 0)) (h')) (fun q25 => some (.pan q25, h')))) (fun q20 => some (.pan q20, h'))) (fun q15 => some (.pan q15, h'))) =
            bsp (e != 0) (w13_FlowPost_p6733 k N M (.rv X) i (.rv x) (true) (h')) (ixa 4 (.rv X) i fun p22 => ldg 4 h' p22 fun v23 => callP F_r13_Flow h' [v23] (fun r24 => asInt .i64 r24 fun n26 => w13_FlowPost_p6733 k N M (.rv X) i (.rv x) ((n26 != 0)) (h')) (fun q25 => some (.pan q25, h'))) := by
          intro x e hF h'
          have h4 : ∀ (K : AV → Option (ARes × Hp)), xtr (.rv (.tuple [x, I e])) 0 K = K (.rv x) := fun K => rfl
          have h5 : ∀ (K : AV → Option (ARes × Hp)), xtr (.rv (.tuple [x, I e])) 1 K = K (.rv (I e)) := fun K => rfl
          rw [callP_ret (by simp [toRV, depthA]) hF (.inl rfl), h4, h5, asInt_i, callP_ret (by simp [toRV, depthA]) (num_spec e) (.inr rfl), asInt_i]
        have skip : ∀ (x : AV) h, TR (w13_FlowPost_p6733 k N M (.rv X) i x true h) := by
          intro x h
          rw [w13_FlowPost_p6733_eq, bsp_of rfl]
          exact next h
        by_cases hf : formOk ds[i].blocks = true
        · by_cases hq : FlowOk ds[i].blocks
          · have hl : 0 < ds[i].blocks.length ∧ ds[i].blocks.length ≤ 4096 := by
              simp only [formOk, Bool.and_eq_true, decide_eq_true_eq] at hf
              exact hf.1
            obtain ⟨P, hP⟩ := IsPost.ex (formOk_succs hf) hl.1
            obtain ⟨x, e, hx⟩ := Post_spec hcd' hf hq hP
            rw [key x 0 e, bsp_not (by rfl), hix, ldg4, callP_ret (by simp [toRV, depthA]) ((Flow_spec hcd).2.1 hf hq) (.inr rfl), asInt_i, w13_FlowPost_p6733_eq, bsp_not (by rfl), hix, pad_rop3, ldv_rop, hb.len, mks_one (by omega) (by omega), show ((0 : Int)) = ((0 : Nat) : Int) from rfl]
            refine FP_fill k N M _ hl.2 (fun h ho => ?_) ds[i].blocks.length 0 k _ (by omega) (by omega) ?_
            · rw [w13_FlowPost_p13471_eq]
              refine FP_ranks hX hil hf hq hP hx k N M _ hk next P.length 0 k h (by omega) (by have := (hP.facts (formOk_succs hf) hl.1).2.2; omega) ?_
              have : rks P 0 ds[i].blocks.length = List.replicate ds[i].blocks.length (-1) := by
                apply List.ext_getElem?
                intro j
                by_cases hj : j < ds[i].blocks.length
                · rw [rks_at hj, List.getElem?_replicate, if_pos hj]
                  simp [rk]
                · rw [List.getElem?_eq_none (by rw [rks_len]; omega), List.getElem?_eq_none (by simp; omega)]
              rw [this]
              exact ho
            · have := get_new (h := h ++ [(⟨0, 4, [.rv p, .rv r, .rv v, .rv b]⟩ : Ob)]) ⟨0, 1, zrep [ai ((0 : Nat) : Int)] ds[i].blocks.length⟩
              rw [this]
              simp [zrep]
          · rw [key .nils 131 ((Post_bad hcd').2 hf hq), bsp_of (by rfl)]
            exact skip _ _
        · rw [key .nils 130 ((Post_bad hcd').1 (by simpa using hf)), bsp_of (by rfl)]
          exact skip _ _
    · rw [decide_eq_false (by omega : ¬ (i : Int) < 10)]
      exact fin i N h
end
theorem FlowPost_spec {X : RV} {ds : List Cd} (hX : IsRows 4 IsCd X ds) : F_w13_FlowPost [X] = some (.ret (.bool true)) := by
  have hs := hX.short
  obtain ⟨h, e⟩ := FP_outer hX big ([] : Hp).length (by rw [big_val]; omega) ds.length 0 big [] (by omega) (by rw [big_val]; omega)
  unfold F_w13_FlowPost
  rw [List.map_cons, List.map_nil, w13_FlowPost_eq, show ((0 : Int)) = ((0 : Nat) : Int) from rfl, e]
  simp [pureR, toRV, depthA]
end Go.Proofs.Ytknphnmhjmejaaa
