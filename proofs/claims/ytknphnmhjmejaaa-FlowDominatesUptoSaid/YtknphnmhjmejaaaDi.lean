/-  What the law FlowDominates tells: true, whatever the list of codes. No conditions. -/
import Derived.Test.YtknphnmhjmejaaaDh
import Derived.Test.YtknphnmhjmejaaaD2
namespace Go.Proofs.Ytknphnmhjmejaaa
set_option linter.unusedVariables false
theorem ups_loop {x : RV} {xs : List Int} (hx : IsInts x xs) (hu : ∀ y ∈ xs, (-1 : Int) ≤ y ∧ y < (xs.length : Int)) (k M : Nat) (h : Hp) : ∀ (m i N : Nat), i + m = xs.length → m < N → w13_ups_l52 k N M (.rv x) i h = some (.ret (ab true), h) := by
  have hs := hx.short
  intro m
  induction m with
  | zero =>
    intro i N hi hN
    obtain ⟨N, rfl⟩ : ∃ q, N = q + 1 := ⟨N - 1, by omega⟩
    rw [w13_ups_l52_eq, hx.len, bsp_not (decide_eq_false (by omega)), w13_ups_p7_eq]
  | succ m ih =>
    intro i N hi hN
    obtain ⟨N, rfl⟩ : ∃ q, N = q + 1 := ⟨N - 1, by omega⟩
    have hil : i < xs.length := by omega
    obtain ⟨h1, h2⟩ := hu _ (List.getElem_mem hil)
    rw [w13_ups_l52_eq, hx.len, bsp_of (decide_eq_true (by omega)), hx.at hil, bsp_not (decide_eq_false (by omega)), hx.at hil, hx.len, w13_ups_p841_eq, bsp_not (decide_eq_false (by omega)), wri_succ (by omega)]
    exact ih (i + 1) N (by omega) (by omega)
theorem ups_spec {x : RV} {xs : List Int} (hx : IsInts x xs) (hu : ∀ y ∈ xs, (-1 : Int) ≤ y ∧ y < (xs.length : Int)) : F_w13_ups [x] = some (.ret (.bool true)) := by
  have hs := hx.short
  unfold F_w13_ups
  rw [List.map_cons, List.map_nil, w13_ups_eq, show ((0 : Int)) = ((0 : Nat) : Int) from rfl, ups_loop hx hu big _ _ xs.length 0 big (by omega) (by rw [big_val]; omega)]
  simp [pureR, toRV, depthA]
theorem IsBools.at {R : Type} {x : RV} {bs : List Bool} (k : IsBools x bs) {h : Hp} {i : Nat} {q : Bool} (hi : bs[i]? = some q) (K : Bool → Option R) : (ixa 1 (.rv x) i fun p => ldb h p K) = K q := by
  have hl := (List.getElem?_eq_some_iff.1 hi).1
  subst k
  have : ((i : Int) < bs.length) := by omega
  have h2 : (bs.map RV.bool)[i]? = some (.bool q) := by rw [List.getElem?_map, hi]; rfl
  simp [ixa, ldb, ldv, cellAt, asBool0, this, h2]
section
variable {X : RV} {ds : List Cd} {x sb : RV} {P : List Nat} {i n : Nat} {G : Gr} {par : Par}
theorem FD_end (hx : IsInts x (dvs par n)) (T : Prop) (k N M N1 M1 N2 M2 N3 M3 b j : Nat) (a : Bool) (c : Nat) (h : Hp) (hN : 0 < N3)
    (out : TR (w13_FlowDominates_p1765746471 k N M N1 M1 N2 M2 (.rv X) i (.rv x) b (.rv sb) j a c h)) : TR (w13_FlowDominates_l14125971764 k N M N1 M1 N2 M2 N3 M3 (.rv X) i (.rv x) b (.rv sb) j a c (-1) h) := by
  obtain ⟨N3, rfl⟩ : ∃ q, N3 = q + 1 := ⟨N3 - 1, by omega⟩
  rw [w13_FlowDominates_l14125971764_eq, bsp_not (by rfl), w13_FlowDominates_p56503887057_eq, bsp_not (by rfl)]
  exact out
theorem FD_turn (hx : IsInts x (dvs par n)) (hn : n ≤ 4096) (k N M N1 M1 N2 M2 N3 M3 b j : Nat) (a : Bool) (c y : Nat) (h : Hp) (hy : y < n) (hc : c ≤ n)
    (out : TR (w13_FlowDominates_l14125971764 k N M N1 M1 N2 M2 N3 M3 (.rv X) i (.rv x) b (.rv sb) j (a || decide (y = b)) ((c + 1 : Nat) : Int) (dv par y) h)) : TR (w13_FlowDominates_l14125971764 k N M N1 M1 N2 M2 (N3 + 1) M3 (.rv X) i (.rv x) b (.rv sb) j a c y h) := by
  have hlen := dvs_len par n
  have hyl : y < (dvs par n).length := by omega
  have rest : TR (w13_FlowDominates_p226015548233 k N M N1 M1 N2 M2 N3 M3 (.rv X) i (.rv x) b (.rv sb) j (a || decide (y = b)) c y h) := by
    rw [w13_FlowDominates_p226015548233_eq, hx.at hyl, dvs_get, wri_succ (by omega)]
    exact out
  rw [w13_FlowDominates_l14125971764_eq, bsp_of (decide_eq_true (by omega)), hx.len, hlen, bsp_of (decide_eq_true (by omega)), hx.len, hlen, w13_FlowDominates_p56503887057_eq, bsp_of (decide_eq_true (by omega))]
  cases a with
  | true =>
    rw [bsp_of rfl]
    simpa using rest
  | false =>
    rw [bsp_not rfl]
    have : ((y : Int) == (b : Int)) = decide (y = b) := by
      by_cases e : y = b
      · simp [e]
      · have : ¬ (y : Int) = b := by omega
        simp [e, this]
    rw [this]
    simpa using rest
theorem FD_chain (kd : Done G par) (g : GrP G P n) (h0m : G.num 0 + 1 = P.length) (hx : IsInts x (dvs par n)) (hP : P.length ≤ n) (hn : n ≤ 4096) (T : Prop) (k N M N1 M1 N2 M2 M3 b j : Nat)
    (outer : ∀ (a : Bool) (c : Nat) (h : Hp), c ≤ n → (a = true ↔ T) → TR (w13_FlowDominates_p1765746471 k N M N1 M1 N2 M2 (.rv X) i (.rv x) b (.rv sb) j a c h)) :
    ∀ (m y N3 c : Nat) (a : Bool) (h : Hp), G.N y → P.length - G.num y ≤ m → m < N3 → c + (P.length - G.num y) ≤ n → ((a = true ∨ Anc par y b) ↔ T) →
      TR (w13_FlowDominates_l14125971764 k N M N1 M1 N2 M2 N3 M3 (.rv X) i (.rv x) b (.rv sb) j a c y h) := by
  intro m
  induction m with
  | zero =>
    intro y N3 c a h hy hm
    have := g.le0 hy
    omega
  | succ m ih =>
    intro y N3 c a h hy hm hN hc hT
    obtain ⟨N3, rfl⟩ : ∃ q, N3 = q + 1 := ⟨N3 - 1, by omega⟩
    have hle := g.le0 hy
    have hyn := g.lt y ((g.mem y).1 hy)
    refine FD_turn hx hn k N M N1 M1 N2 M2 N3 M3 b j a c y h hyn (by omega) ?_
    rcases kd.dv_step hy with ⟨rfl, e⟩ | ⟨h0, y', hp, e, hy', hlt⟩
    · rw [e]
      refine FD_end hx T k N M N1 M1 N2 M2 N3 M3 b j _ (c + 1) h (by omega) (outer _ (c + 1) h (by omega) ?_)
      rw [← hT, kd.anc0, Bool.or_eq_true, decide_eq_true_eq, eq_comm (a := (0 : Nat))]
    · rw [e]
      refine ih y' N3 (c + 1) _ h hy' (by omega) (by omega) (by omega) ?_
      rw [← hT, anc_step hp, Bool.or_eq_true, decide_eq_true_eq, or_assoc]
theorem FD_ks (hX : IsRows 4 IsCd X ds) (hi : i < ds.length) (hf : formOk ds[i].blocks = true) (hq : FlowOk ds[i].blocks) (hP : IsPost ds[i].blocks P) (kd : Done (grOf hf hq hP) par) (hx : IsInts x (dvs par ds[i].blocks.length)) (k N M N1 M1 M2 b : Nat) (hk : 1000000000 < k)
    (hb0 : b ∈ P) {seen : List Bool} (hsb : IsBools sb seen) (hsl : seen.length = ds[i].blocks.length) (hseen : ∀ j : Nat, seen[j]? = some true ↔ (b : Int) ≠ 0 ∧ Rch ds[i].blocks (b : Int) 0 j)
    (outer : ∀ h, TR (w13_FlowDominates_p431091 k N M N1 M1 (.rv X) i (.rv x) b h)) :
    ∀ (m j N2 : Nat) (h : Hp), j + m = ds[i].blocks.length → m < N2 → TR (w13_FlowDominates_l27589788 k N M N1 M1 N2 M2 (.rv X) i (.rv x) b (.rv sb) j h) := by
  have hok := formOk_succs hf
  have hl : 0 < ds[i].blocks.length ∧ ds[i].blocks.length ≤ 4096 := by
    simp only [formOk, Bool.and_eq_true, decide_eq_true_eq] at hf
    exact hf.1
  obtain ⟨hnd, hlt, hple⟩ := hP.facts hok hl.1
  have g := grP hf hq hP
  have h0m := post_num0 hf hq hP
  obtain ⟨p, r, v, bb, rest, hcd, hb, hix⟩ := cd_read hX hi
  intro m
  induction m with
  | zero =>
    intro j N2 h hj hN
    obtain ⟨N2, rfl⟩ : ∃ q, N2 = q + 1 := ⟨N2 - 1, by omega⟩
    rw [w13_FlowDominates_l27589788_eq, hx.len, dvs_len, bsp_not (decide_eq_false (by omega))]
    exact outer h
  | succ m ih =>
    intro j N2 h hj hN
    obtain ⟨N2, rfl⟩ : ∃ q, N2 = q + 1 := ⟨N2 - 1, by omega⟩
    have hjl : j < ds[i].blocks.length := by omega
    obtain ⟨a, q, s, t, rest', k1, k2, k3, k4, hbx⟩ := blk_at (R := ARes × Hp) hb hjl
    have hbk : IsBlk [I ds[i].blocks[j].kind, I ds[i].blocks[j].n, a, q, s, t] ds[i].blocks[j] := ⟨a, q, s, t, rfl, k1, k2, k3, k4⟩
    have next : ∀ h, TR (w13_FlowDominates_p3531492943 k N M N1 M1 N2 M2 (.rv X) i (.rv x) b (.rv sb) j false h) := by
      intro h
      rw [w13_FlowDominates_p3531492943_eq, bsp_not rfl, w13_FlowDominates_p110359155_eq, wri_succ (by omega)]
      exact ih (j + 1) N2 h (by omega) (by omega)
    have judge : ∀ (a' : Bool) (c : Nat) (h : Hp), c ≤ ds[i].blocks.length → (j ∈ P → (a' = true ↔ Anc par j b)) → TR (w13_FlowDominates_p1765746471 k N M N1 M1 N2 M2 (.rv X) i (.rv x) b (.rv sb) j a' c h) := by
      intro a' c h hc hT
      rw [w13_FlowDominates_p1765746471_eq, hx.len, dvs_len, bsp_not (decide_eq_false (by omega)), hix, pad_rop3, ldv_rop, hbx, ldg6, callP_ret (by simp [toRV, depthA]) (Hole_spec hbk) (.inr rfl), asBool_b]
      by_cases h0 : ds[i].blocks[j].kind = 0
      · rw [bsp_not (by simp [h0])]
        exact next h
      · have hjP : j ∈ P := (post_kind hf hq hP (List.getElem?_eq_getElem hjl)).2 h0
        obtain ⟨w, hw⟩ : ∃ w, seen[j]? = some w := ⟨_, List.getElem?_eq_getElem (by rw [hsl]; exact hjl)⟩
        have hav : w = true ↔ (grOf hf hq hP).Av b j := by
          rw [av_rch hf hq hP hjP]
          have := hseen j
          rw [hw] at this
          simpa using this
        have hne : (a' == w) = false := by
          have h1 := hT hjP
          have h2 := kd.exact (b := j) (d := b) hjP
          rw [beq_eq_false_iff_ne]
          rintro rfl
          cases a' with
          | true => exact h2.1 (h1.1 rfl) (hav.1 rfl)
          | false => exact Bool.noConfusion (h1.2 (h2.2 fun hh => Bool.noConfusion (hav.2 hh)))
        rw [bsp_of (by simpa using h0), hsb.at hw, hne]
        exact next h
    rw [w13_FlowDominates_l27589788_eq, hx.len, dvs_len, bsp_of (decide_eq_true (by omega))]
    by_cases hjP : j ∈ P
    · have hnum : (grOf hf hq hP).num j = P.idxOf j := g.num j
      exact FD_chain kd g h0m hx hple hl.2 (Anc par j b) k N M N1 M1 N2 M2 _ b j (fun a' c h hc hT => judge a' c h hc fun _ => hT) P.length j k 0 false h hjP (by omega) (by omega) (by omega) (by simp)
    · obtain ⟨k', rfl⟩ : ∃ q, k = q + 1 := ⟨k - 1, by omega⟩
      have := FD_turn (X := X) (i := i) (sb := sb) hx hl.2 (k' + 1) N M N1 M1 N2 M2 k' h.length b j false 0 j h hjl (by omega)
        (by
          rw [kd.dv_hole hjP]
          exact FD_end hx True (k' + 1) N M N1 M1 N2 M2 k' h.length b j _ 1 h (by omega) (judge _ 1 h (by omega) fun h2 => absurd h2 hjP))
      exact this
theorem FD_bs (hX : IsRows 4 IsCd X ds) (hi : i < ds.length) (hf : formOk ds[i].blocks = true) (hq : FlowOk ds[i].blocks) (hP : IsPost ds[i].blocks P) (kd : Done (grOf hf hq hP) par) (hx : IsInts x (dvs par ds[i].blocks.length)) (k N M M1 : Nat) (hk : 1000000000 < k)
    (outer : ∀ h, TR (w13_FlowDominates_p211 k N M (.rv X) i h)) :
    ∀ (m b N1 : Nat) (h : Hp), b + m = ds[i].blocks.length → m < N1 → TR (w13_FlowDominates_l107772 k N M N1 M1 (.rv X) i (.rv x) b h) := by
  have hok := formOk_succs hf
  have hl : 0 < ds[i].blocks.length ∧ ds[i].blocks.length ≤ 4096 := by
    simp only [formOk, Bool.and_eq_true, decide_eq_true_eq] at hf
    exact hf.1
  obtain ⟨p, r, v, bb, rest, hcd, hb, hix⟩ := cd_read hX hi
  intro m
  induction m with
  | zero =>
    intro b N1 h hj hN
    obtain ⟨N1, rfl⟩ : ∃ q, N1 = q + 1 := ⟨N1 - 1, by omega⟩
    rw [w13_FlowDominates_l107772_eq, hx.len, dvs_len, bsp_not (decide_eq_false (by omega))]
    exact outer h
  | succ m ih =>
    intro b N1 h hj hN
    obtain ⟨N1, rfl⟩ : ∃ q, N1 = q + 1 := ⟨N1 - 1, by omega⟩
    have hbl : b < ds[i].blocks.length := by omega
    have hlen := dvs_len par ds[i].blocks.length
    obtain ⟨a, q, s, t, rest', k1, k2, k3, k4, hbx⟩ := blk_at (R := ARes × Hp) hb hbl
    have hbk : IsBlk [I ds[i].blocks[b].kind, I ds[i].blocks[b].n, a, q, s, t] ds[i].blocks[b] := ⟨a, q, s, t, rfl, k1, k2, k3, k4⟩
    have hkind := post_kind hf hq hP (List.getElem?_eq_getElem hbl)
    have next : ∀ h, TR (w13_FlowDominates_p431091 k N M N1 M1 (.rv X) i (.rv x) b h) := by
      intro h
      rw [w13_FlowDominates_p431091_eq, wri_succ (by omega)]
      exact ih (b + 1) N1 h (by omega) (by omega)
    rw [w13_FlowDominates_l107772_eq, hx.len, dvs_len, bsp_of (decide_eq_true (by omega)), hix, pad_rop3, ldv_rop, hbx, ldg6, callP_ret (by simp [toRV, depthA]) (Hole_spec hbk) (.inr rfl), asBool_b]
    by_cases h0 : ds[i].blocks[b].kind = 0
    · have hbP : ¬ b ∈ P := fun h2 => hkind.1 h2 h0
      have hbd : b < (dvs par ds[i].blocks.length).length := by omega
      rw [bsp_of (by simpa using h0), hx.at hbd, dvs_get, kd.dv_hole hbP, bsp_not (by rfl)]
      exact next h
    · obtain ⟨sb, seen, e, hsb, hsl, hseen⟩ := Reached_spec hcd hf (b : Int)
      rw [bsp_not (by simpa using h0), hix, ldg4, callP_ret (by simp [toRV, depthA]) e (.inl rfl)]
      exact FD_ks hX hi hf hq hP kd hx k N M N1 M1 _ b hk (hkind.2 h0) hsb hsl hseen next ds[i].blocks.length 0 k h (by omega) (by omega)
theorem FD_outer (hX : IsRows 4 IsCd X ds) (k M : Nat) (hk : 1000000000 < k) : ∀ (m i N : Nat) (h : Hp), i + m = ds.length → m < N → TR (w13_FlowDominates_l52 k N M (.rv X) i h) := by
  have hs := hX.short
  have fin : ∀ i N h, TR (w13_FlowDominates_p209 k N M (.rv X) i false h) := by
    intro i N h
    rw [w13_FlowDominates_p209_eq, bsp_not rfl, w13_FlowDominates_p7_eq, callP_ret (by rfl) wakes_spec (.inr rfl), asBool_b]
    exact ⟨h, rfl⟩
  intro m
  induction m with
  | zero =>
    intro i N h hi hN
    obtain ⟨N, rfl⟩ : ∃ q, N = q + 1 := ⟨N - 1, by omega⟩
    rw [w13_FlowDominates_l52_eq, hX.len, bsp_not (decide_eq_false (by omega))]
    exact fin i N h
  | succ m ih =>
    intro i N h hi hN
    obtain ⟨N, rfl⟩ : ∃ q, N = q + 1 := ⟨N - 1, by omega⟩
    have hil : i < ds.length := by omega
    rw [w13_FlowDominates_l52_eq, hX.len, bsp_of (decide_eq_true (by omega))]
    by_cases h10 : i < 10
    · rw [decide_eq_true (by omega : (i : Int) < 10)]
      obtain ⟨p, r, v, b, rest, hcd, hb, hix⟩ := cd_read hX hil
      have next : ∀ h, TR (w13_FlowDominates_p211 k N M (.rv X) i h) := by
        intro h
        rw [w13_FlowDominates_p211_eq, wri_succ (by omega)]
        exact ih (i + 1) N h (by omega) (by omega)
      have hone := hcd
      obtain ⟨p, r, v, b, e, c1, c2, c3, c4⟩ := hone
      cases e
      have e1 : ∀ K : AV → Hp → Option (ARes × Hp), bsl 4 1 [.rv .nils, .rv .nils, .rv .nils, .rv .nils] [(some (0, 4), .agg [.rv p, .rv r, .rv v, .rv b])] h K = K (.sl h.length 0 0 1) (h ++ [⟨0, 4, [.rv p, .rv r, .rv v, .rv b]⟩]) := fun K => rfl
      have e2 : ∀ (y : AV) (K : AV → Option (ARes × Hp)), vcells y = some [y] → bld [.rv .nils, .rv .nils] [(some (0, 1), y)] K = K (.agg [y, .rv .nils]) := by
        intro y K hy
        simp [bld, fillA, hy, setAt]
      have hu : IsUt [.ros [p, r, v, b] 1, .nils] ⟨[ds[i]], 0⟩ := ⟨_, _, rfl, .mk (n := 4) (Q := IsCd) (l := [ds[i]]) (.cons (c := [p, r, v, b]) rfl hcd .nil) (by simp), .inl ⟨rfl, rfl⟩⟩
      obtain ⟨w, hw⟩ := Weight_spec hu 2000
      have hr : [AV.agg [.sl h.length 0 0 1, .rv .nils], .rv (.int .i64 2000)].mapM (toRV (h ++ [⟨0, 4, [.rv p, .rv r, .rv v, .rv b]⟩]) depthA) = some [.agg [.ros [p, r, v, b] 1, .nils], I 2000] := by
        simp [depthA, toRV]
      rw [w13_FlowDominates_p209_eq, bsp_of rfl, hix, ldg4, e1, e2 _ _ rfl, callP_ret hr hw (.inr rfl), asInt_i]
      by_cases hbig : w > 2000
      · rw [bsp_of (decide_eq_true hbig)]
        exact ⟨_, rfl⟩
      · obtain ⟨cs', hc, hcd'⟩ := CopyCode_spec hcd
        rw [bsp_not (decide_eq_false hbig), hix, ldg4, callP_ret (by simp [toRV, depthA]) hc (.inl rfl)]
        have key : ∀ (x : RV) (e : Int), F_flow_Doms [.agg cs'] = some (.ret (.tuple [x, I e])) → ∀ h', (callP F_flow_Doms h' [.rv (.agg cs')] (fun r14 => xtr r14 0 fun v16 => xtr r14 1 fun v17 => asInt .i64 v17 fun n18 => callP F_w13_num h' [(.rv (.int .i64 n18))] (fun r19 => asInt .i64 r19 fun n21 => bsp ((n21 != 0)) (w13_FlowDominates_p6733 k N M (.rv X) i v16 (true) (h')) (ixa 4 (.rv X) i fun p22 => ldg 4 h' p22 fun v23 => callP F_r13_Flow h' [v23] (fun r24 => asInt .i64 r24 fun n26 => w13_FlowDominates_p6733 k N M (.rv X) i v16 ((n26 != 0)) (h')) (fun q25 => some (.pan q25, h')))) (fun q20 => some (.pan q20, h'))) (fun q15 => some (.pan q15, h'))) =
            bsp (e != 0) (w13_FlowDominates_p6733 k N M (.rv X) i (.rv x) (true) (h')) (ixa 4 (.rv X) i fun p22 => ldg 4 h' p22 fun v23 => callP F_r13_Flow h' [v23] (fun r24 => asInt .i64 r24 fun n26 => w13_FlowDominates_p6733 k N M (.rv X) i (.rv x) ((n26 != 0)) (h')) (fun q25 => some (.pan q25, h'))) := by
          intro x e hF h'
          have h4 : ∀ (K : AV → Option (ARes × Hp)), xtr (.rv (.tuple [x, I e])) 0 K = K (.rv x) := fun K => rfl
          have h5 : ∀ (K : AV → Option (ARes × Hp)), xtr (.rv (.tuple [x, I e])) 1 K = K (.rv (I e)) := fun K => rfl
          rw [callP_ret (by simp [toRV, depthA]) hF (.inl rfl), h4, h5, asInt_i, callP_ret (by simp [toRV, depthA]) (num_spec e) (.inr rfl), asInt_i]
        have skip : ∀ (x : AV) h, TR (w13_FlowDominates_p6733 k N M (.rv X) i x true h) := by
          intro x h
          rw [w13_FlowDominates_p6733_eq, bsp_of rfl]
          exact next h
        by_cases hf : formOk ds[i].blocks = true
        · by_cases hq : FlowOk ds[i].blocks
          · have hl : 0 < ds[i].blocks.length ∧ ds[i].blocks.length ≤ 4096 := by
              simp only [formOk, Bool.and_eq_true, decide_eq_true_eq] at hf
              exact hf.1
            obtain ⟨P, hP⟩ := IsPost.ex (formOk_succs hf) hl.1
            obtain ⟨par, x, kd, e, hx⟩ := flowDoms_spec hcd' hf hq hP
            rw [key x 0 e, bsp_not (by rfl), hix, ldg4, callP_ret (by simp [toRV, depthA]) ((Flow_spec hcd).2.1 hf hq) (.inr rfl), asInt_i, w13_FlowDominates_p6733_eq, bsp_not (by rfl), hx.len, dvs_len, hix, pad_rop3, ldv_rop, hb.len, bsp_not (by simp), callP_ret (by simp [toRV, depthA]) (ups_spec hx (kd.ups (grP hf hq hP))) (.inr rfl), asBool_b, bsp_not (by rfl)]
            exact FD_bs hX hil hf hq hP kd hx k N M _ hk next ds[i].blocks.length 0 k _ (by omega) (by omega)
          · rw [key .nils 131 ((flowDoms_bad hcd').2 hf hq), bsp_of (by rfl)]
            exact skip _ _
        · rw [key .nils 130 ((flowDoms_bad hcd').1 (by simpa using hf)), bsp_of (by rfl)]
          exact skip _ _
    · rw [decide_eq_false (by omega : ¬ (i : Int) < 10)]
      exact fin i N h
end
theorem FlowDominates_spec {X : RV} {ds : List Cd} (hX : IsRows 4 IsCd X ds) : F_w13_FlowDominates [X] = some (.ret (.bool true)) := by
  have hs := hX.short
  obtain ⟨h, e⟩ := FD_outer hX big ([] : Hp).length (by rw [big_val]; omega) ds.length 0 big [] (by omega) (by rw [big_val]; omega)
  unfold F_w13_FlowDominates
  rw [List.map_cons, List.map_nil, w13_FlowDominates_eq, show ((0 : Int)) = ((0 : Nat) : Int) from rfl, e]
  simp [pureR, toRV, depthA]
end Go.Proofs.Ytknphnmhjmejaaa
