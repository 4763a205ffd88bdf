/-  What the program's postorder tells. No conditions. -/
import Derived.Test.YtknphnmhjmejaaaHf
namespace Go.Proofs.Ytknphnmhjmejaaa
set_option linter.unusedVariables false
abbrev walkV : AV := .func id_flow_Post_c1 [] [.ptr 3 0 0, .ptr 0 0 0, .ptr 5 0 0, .ptr 4 0 0]
structure PS (h : Hp) (cells : List AV) (n : Nat) (inV : AV) (A : List Int) (postV : AV) (S P : List Nat) : Prop where
  c : h[0]? = some ⟨0, 1, cells⟩
  set : SetAt h 2 1 n inV A S
  sv : h[3]? = some ⟨0, 1, [.ptr 2 0 0]⟩
  pv : h[4]? = some ⟨0, 1, [postV]⟩
  wv : h[5]? = some ⟨0, 1, [walkV]⟩
  post : IntsJ h postV (P.map Int.ofNat)
  own1 : ∀ o, own inV = some o → 6 ≤ o
  own2 : ∀ o, own postV = some o → 6 ≤ o ∧ own inV ≠ some o
  pl : P.length ≤ S.length
theorem PS.added {h h' : Hp} {cells : List AV} {n : Nat} {inV inV' : AV} {A A' : List Int} {postV : AV} {S P : List Nat} {b : Nat} (k : PS h cells n inV A postV S P) (s : SetAt h' 2 1 n inV' A' (S ++ [b])) (kp : Keeps 2 1 inV inV' h h') : PS h' cells n inV' A' postV (S ++ [b]) P := by
  obtain ⟨hle, hk, how⟩ := kp
  have l0 := get_lt k.c
  have l5 := get_lt k.wv
  have keep : ∀ o, o < 6 → o ≠ 2 → o ≠ 1 → h'[o]? = h[o]? := fun o ho h1 h2 => hk o (by omega) h1 h2 (fun e => by have := k.own1 o e; omega)
  refine ⟨by rw [keep 0 (by omega) (by omega) (by omega)]; exact k.c, s, by rw [keep 3 (by omega) (by omega) (by omega)]; exact k.sv, by rw [keep 4 (by omega) (by omega) (by omega)]; exact k.pv,
    by rw [keep 5 (by omega) (by omega) (by omega)]; exact k.wv, ?_, ?_, ?_, by have := k.pl; simp; omega⟩
  · refine k.post.mono fun o ho => ?_
    obtain ⟨h6, hne⟩ := k.own2 o ho
    exact hk o (k.post.ownlt ho) (by omega) (by omega) hne
  · intro o ho
    rcases how with e | ⟨o', e, hlt⟩
    · rw [e] at ho; exact k.own1 o ho
    · rw [ho] at e; cases e; omega
  · intro o ho
    obtain ⟨h6, hne⟩ := k.own2 o ho
    refine ⟨h6, fun e2 => ?_⟩
    rcases how with e | ⟨o', e, hlt⟩
    · rw [e] at e2; exact hne e2
    · rw [e2] at e; cases e
      have := k.post.ownlt ho
      omega
section
variable {p r v b : RV} {d : Cd}
theorem walk_end {cells : List AV} {n : Nat} {inV : AV} {A : List Int} {postV : AV} {S P : List Nat} {h : Hp} (k : PS h cells n inV A postV S P) (hn : n < 1000000000) (F : List AV → Hp → Option (ARes × Hp)) (kk x : Nat) (hlt : P.length < S.length) :
    ∃ h' inV' A' postV', flow_Post_c1_p7 F kk x (.ptr 4 0 0) h = some (.ret undefA, h') ∧ PS h' cells n inV' A' postV' S (P ++ [x]) := by
  have hSl : S.length ≤ n := nodup_le _ _ k.set.nd k.set.lt
  obtain ⟨w, h3, hK, kw, hl, hkeep, how⟩ := k.post.push (by simp; omega) (x : Int)
  have l5 := get_lt k.wv
  have keep : ∀ o, o < 6 → h3[o]? = h[o]? := fun o ho => hkeep o (by omega) (fun e => by have := (k.own2 o e).1; omega)
  have h4 : h3[4]? = some ⟨0, 1, [postV]⟩ := by rw [keep 4 (by omega)]; exact k.pv
  have ow : ∀ o, own w = some o → 6 ≤ o ∧ own inV ≠ some o := by
    intro o ho
    rcases how with e | ⟨o', e, hlt'⟩
    · rw [e] at ho; exact k.own2 o ho
    · rw [ho] at e; cases e
      exact ⟨by omega, fun e => by have := k.set.ins.ownlt e; omega⟩
  have keep2 : ∀ o, o < 6 → o ≠ 4 → (h3.set 4 ⟨0, 1, [postV].set 0 w⟩)[o]? = h[o]? := fun o ho hne => by rw [List.getElem?_set_ne (Ne.symm hne)]; exact keep o ho
  rw [flow_Post_c1_p7_eq, ldv_at k.pv (x := postV) rfl, hK, stv_at h4 (by simp) kw.cells.2 kw.cells.1]
  refine ⟨_, inV, A, w, rfl, ⟨by rw [keep2 0 (by omega) (by omega)]; exact k.c, ?_, by rw [keep2 3 (by omega) (by omega)]; exact k.sv, ?_, by rw [keep2 5 (by omega) (by omega)]; exact k.wv, ?_, k.own1, ow, by simp; omega⟩⟩
  · refine k.set.mono fun o ho => ?_
    rcases ho with rfl | rfl | ho
    · exact keep2 2 (by omega) (by omega)
    · exact keep2 1 (by omega) (by omega)
    · have h6 := k.own1 o ho
      rw [List.getElem?_set_ne (by omega)]
      exact hkeep o (k.set.ins.ownlt ho) fun e => (k.own2 o e).2 ho
  · exact get_set_eq h4
  · have := kw.mono (h' := h3.set 4 ⟨0, 1, [postV].set 0 w⟩) fun o ho => List.getElem?_set_ne (by have := (ow o ho).1; omega)
    simpa using this
theorem walk_loop (hd : IsCd [p, r, v, b] d) (hsh : d.blocks.length ≤ 4096) (hok : okSuccs d.blocks) (F : List AV → Hp → Option (ARes × Hp)) (n : Nat)
    (rec : ∀ (x : Nat) (S P S1 P1 : List Nat) (inV : AV) (A : List Int) (postV : AV) (h : Hp), d.blocks.length - S.length ≤ n → x < d.blocks.length → x ∉ S → Dfs (sucs d.blocks) (sucs d.blocks x) (S ++ [x]) P S1 P1 → PS h [.rv p, .rv r, .rv v, .rv b] d.blocks.length inV A postV S P →
      ∃ h' inV' A' postV', F [ai x, .ptr 3 0 0, .ptr 0 0 0, .ptr 5 0 0, .ptr 4 0 0] h = some (.ret undefA, h') ∧ PS h' [.rv p, .rv r, .rv v, .rv b] d.blocks.length inV' A' postV' S1 (P1 ++ [x]))
    (k M x : Nat) {sv : RV} (hx : x < d.blocks.length) (hsv : IsInts sv d.blocks[x].succs) (S1 P1 : List Nat) : ∀ (m j N : Nat) (S P : List Nat) (inV : AV) (A : List Int) (postV : AV) (h : Hp), j + m = d.blocks[x].succs.length → m < N → d.blocks.length - S.length ≤ n → P.length < S.length → Dfs (sucs d.blocks) ((sucs d.blocks x).drop j) S P S1 P1 →
      PS h [.rv p, .rv r, .rv v, .rv b] d.blocks.length inV A postV S P → ∃ h' inV' A' postV', flow_Post_c1_l52 F k N M x (.ptr 3 0 0) (.ptr 5 0 0) (.ptr 4 0 0) (.rv sv) d.blocks[x].succs.length j h = some (.ret undefA, h') ∧ PS h' [.rv p, .rv r, .rv v, .rv b] d.blocks.length inV' A' postV' S1 (P1 ++ [x]) := by
  have hs := hsv.short
  intro m
  induction m with
  | zero =>
    intro j N S P inV A postV h hj hN hn hlt hdf hps
    obtain ⟨N, rfl⟩ : ∃ q, N = q + 1 := ⟨N - 1, by omega⟩
    rw [List.drop_eq_nil_of_le (by rw [sucs_at hx, List.length_map]; omega)] at hdf
    obtain ⟨rfl, rfl⟩ := hdf.nil_inv
    rw [flow_Post_c1_l52_eq, bsp_not (decide_eq_false (by omega))]
    exact walk_end hps (by omega) F k x hlt
  | succ m ih =>
    intro j N S P inV A postV h hj hN hn hlt hdf hps
    obtain ⟨N, rfl⟩ : ∃ q, N = q + 1 := ⟨N - 1, by omega⟩
    have hjl : j < d.blocks[x].succs.length := by omega
    obtain ⟨y, hy, hyl⟩ := hok x d.blocks[x] (List.getElem?_eq_getElem hx) d.blocks[x].succs[j] (List.getElem_mem hjl)
    have hsl : j < (sucs d.blocks x).length := by rw [sucs_at hx, List.length_map]; exact hjl
    have hsy : (sucs d.blocks x)[j] = y := by
      have : (sucs d.blocks x)[j]? = some y := by rw [sucs_at hx, List.getElem?_map, List.getElem?_eq_getElem hjl, hy]; rfl
      rw [List.getElem?_eq_getElem hsl] at this
      exact Option.some.inj this
    rw [List.drop_eq_getElem_cons hsl, hsy] at hdf
    rw [flow_Post_c1_l52_eq, bsp_of (decide_eq_true (by omega)), hsv.at hjl, hy, ldv_at hps.sv (x := .ptr 2 0 0) rfl, callG_ret (has_spec hps.set hyl), asBool_b]
    cases hdf with
    | seen hm r =>
      rw [decide_eq_true hm, bsp_not (by rfl), flow_Post_c1_p423_eq, wri_succ (by omega)]
      exact ih (j + 1) N S P inV A postV h (by omega) (by omega) hn hlt r hps
    | @go _ _ _ _ S2 P2 _ _ hm r1 r2 =>
      obtain ⟨h', inV', A', postV', e, hps'⟩ := rec y S P S2 P2 inV A postV h hn hyl hm r1 hps
      rw [decide_eq_false hm, bsp_of (by rfl), ldv_at hps.wv (x := walkV) rfl, callV_gen (Γ := flow_Post_c1_G F) (f := id_flow_Post_c1) (G := F) rfl e, flow_Post_c1_p423_eq, wri_succ (by omega)]
      obtain ⟨NN, Q, kf⟩ := r1.found
      have h1 : S2.length = S.length + 1 + NN.length := by rw [kf.s]; simp; omega
      have h2 : P2.length = P.length + Q.length := by rw [kf.p]; simp
      have h3 := kf.len
      exact ih (j + 1) N S2 (P2 ++ [y]) inV' A' postV' h' (by omega) (by omega) (by omega) (by simp; omega) r2 hps'
theorem walk_spec (hd : IsCd [p, r, v, b] d) (hsh : d.blocks.length ≤ 4096) (hok : okSuccs d.blocks) : ∀ (n x : Nat) (S P S1 P1 : List Nat) (inV : AV) (A : List Int) (postV : AV) (h : Hp), d.blocks.length - S.length ≤ n → x < d.blocks.length → x ∉ S → Dfs (sucs d.blocks) (sucs d.blocks x) (S ++ [x]) P S1 P1 →
    PS h [.rv p, .rv r, .rv v, .rv b] d.blocks.length inV A postV S P → ∃ h' inV' A' postV', GR_flow_Post_c1 n [ai x, .ptr 3 0 0, .ptr 0 0 0, .ptr 5 0 0, .ptr 4 0 0] h = some (.ret undefA, h') ∧ PS h' [.rv p, .rv r, .rv v, .rv b] d.blocks.length inV' A' postV' S1 (P1 ++ [x]) := by
  have hd' := hd
  obtain ⟨p, r, v, b, e, _, _, _, hb⟩ := hd
  cases e
  intro n
  induction n with
  | zero =>
    intro x S P S1 P1 inV A postV h hn hx hxS hdf hps
    have := nodup_le d.blocks.length (S ++ [x]) (nodup_snoc hps.set.nd hxS) (fun y hy => by
      rcases List.mem_append.1 hy with h | h
      · exact hps.set.lt y h
      · simp at h; subst h; exact hx)
    simp at this
    omega
  | succ n ih =>
    intro x S P S1 P1 inV A postV h hn hx hxS hdf hps
    obtain ⟨h1, inV1, A1, e1, s1, k1⟩ := add_new hps.set (by omega) hx hxS
    have hps1 := hps.added s1 k1
    obtain ⟨a, q, s, t, rest, j1, j2, j3, j4, hbx⟩ := blk_at (R := ARes × Hp) hb hx
    have hs := j3.short
    have hpl := hps.pl
    have run : GR_flow_Post_c1 (n + 1) [ai x, .ptr 3 0 0, .ptr 0 0 0, .ptr 5 0 0, .ptr 4 0 0] h = flow_Post_c1_l52 (GR_flow_Post_c1 n) big big h1.length x (.ptr 3 0 0) (.ptr 5 0 0) (.ptr 4 0 0) (.rv s) d.blocks[x].succs.length ((0 : Nat) : Int) h1 := by
      rw [GR_flow_Post_c1_succ, flow_Post_c1_eq, ldv_at hps.sv (x := .ptr 2 0 0) rfl, callG_ret e1, pad_ptr, ldv_at hps1.c (x := .rv b) rfl, hbx, pad_rop4, ldv_rop, j3.len, show ((0 : Int)) = ((0 : Nat) : Int) from rfl]
    rw [run]
    exact walk_loop hd' hsh hok (GR_flow_Post_c1 n) n ih big h1.length x hx j3 S1 P1 d.blocks[x].succs.length 0 big (S ++ [x]) P inV1 A1 postV h1 (by omega) (by rw [big_val]; omega) (by simp; omega) (by simp; omega) (by simpa using hdf) hps1
theorem Post_bad {cs : List RV} {d : Cd} (hd : IsCd cs d) : (formOk d.blocks = false → F_flow_Post [.agg cs] = some (.ret (.tuple [.nils, I 130]))) ∧ (formOk d.blocks = true → ¬ FlowOk d.blocks → F_flow_Post [.agg cs] = some (.ret (.tuple [.nils, I 131]))) := by
  have hd' := hd
  obtain ⟨p, r, v, b, rfl, _, _, _, hb⟩ := hd
  have key : ∀ e : Int, e ≠ 0 → F_ssa_Flow [.agg [p, r, v, b]] = some (.ret (I e)) → F_flow_Post [.agg [p, r, v, b]] = some (.ret (.tuple [.nils, I e])) := by
    intro e he hF
    unfold F_flow_Post
    rw [List.map_cons, List.map_nil, flow_Post_eq, box_agg, List.nil_append, List.length_nil, show List.map AV.rv [p, r, v, b] = [.rv p, .rv r, .rv v, .rv b] from rfl, ldg_at (by rfl) (by rfl), callP_ret (by simp [toRV, depthA]) hF (.inr rfl), asInt_i, bsp_of (by simpa using he)]
    simp [pureR, toRV, depthA]
  exact ⟨fun h => key 130 (by omega) ((ssaFlow_spec hd').1 h), fun h q => key 131 (by omega) ((ssaFlow_spec hd').2.2 h q)⟩
theorem Post_spec {cs : List RV} {d : Cd} (hd : IsCd cs d) (hf : formOk d.blocks = true) (hq : FlowOk d.blocks) {P : List Nat} (hP : IsPost d.blocks P) : ∃ x, F_flow_Post [.agg cs] = some (.ret (.tuple [x, I 0])) ∧ IsInts x (P.map Int.ofNat) := by
  have hd' := hd
  obtain ⟨p, r, v, b, rfl, _, _, _, hb⟩ := hd
  have hok := formOk_succs hf
  have hl : 0 < d.blocks.length ∧ d.blocks.length ≤ 4096 := by
    simp only [formOk, Bool.and_eq_true, decide_eq_true_eq] at hf
    exact hf.1
  obtain ⟨S, hdf⟩ := hP
  have hdf' : ∃ P0, P = P0 ++ [0] ∧ Dfs (sucs d.blocks) (sucs d.blocks 0) ([] ++ [0]) [] S P0 := by
    cases hdf with
    | seen h => simp at h
    | go _ r1 r2 =>
      obtain ⟨rfl, rfl⟩ := r2.nil_inv
      exact ⟨_, rfl, by simpa using r1⟩
  obtain ⟨P0, hP0, hdf0⟩ := hdf'
  let h0 : Hp := [⟨0, 1, [.rv p, .rv r, .rv v, .rv b]⟩, ⟨0, 1, zrep [ai 0] d.blocks.length⟩, ⟨0, 1, [.rv .nils, .sl 1 0 0 d.blocks.length]⟩, ⟨0, 1, [.ptr 2 0 0]⟩, ⟨0, 1, [.rv .nils]⟩, ⟨0, 1, [walkV]⟩]
  have run : F_flow_Post [.agg [p, r, v, b]] = pureR (callV flow_Post_G walkV h0 [ai 0] (fun r24 h26 => ldv h26 (.ptr 4 0 0) fun v28 => some (.ret (.tuple [v28, (.rv (.int .i64 0))]), h26)) (fun q25 h27 => some (.pan q25, h27))) := by
    unfold F_flow_Post
    rw [List.map_cons, List.map_nil, flow_Post_eq, box_agg, List.nil_append, List.length_nil, show List.map AV.rv [p, r, v, b] = [.rv p, .rv r, .rv v, .rv b] from rfl, ldg_at (by rfl) (by rfl), callP_ret (by simp [toRV, depthA]) ((ssaFlow_spec hd').2.1 hf hq) (.inr rfl), asInt_i, bsp_not (by rfl),
      pad_ptr, ldv_at (by rfl) (x := .rv b) (by rfl), hb.len, mks_one (by omega) (by omega)]
    rfl
  have hz : zrep [ai 0] d.blocks.length = (List.replicate d.blocks.length (0 : Int)).map ai := by simp [zrep]
  have hps : PS h0 [.rv p, .rv r, .rv v, .rv b] d.blocks.length (.rv .nils) (List.replicate d.blocks.length 0) (.rv .nils) [] [] := by
    refine ⟨rfl, ⟨rfl, .nil, ?_, by simp, ?_, by simp, by simp, by simp, by omega, by simp [own], by simp [own]⟩, rfl, rfl, rfl, .nil, by simp [own], by simp [own], by simp⟩
    · show some _ = _
      rw [hz]
    · intro a ha
      rw [List.mem_replicate] at ha
      omega
  have hbig : d.blocks.length - ([] : List Nat).length ≤ big := by
    rw [big_val, List.length_nil]
    omega
  obtain ⟨h', inV', A', postV', e, hps'⟩ := walk_spec hd' hl.2 hok big 0 [] [] S P0 _ _ _ h0 hbig hl.1 (by simp) hdf0 hps
  rw [← hP0] at hps'
  have hnl := (IsPost.facts hok hl.1 ⟨S, hdf⟩).2.2
  obtain ⟨x, hx, hix⟩ := hps'.post.done2 (by simp; omega)
  refine ⟨x, ?_, hix⟩
  have e' : G_flow_Post_c1 ([] ++ [ai 0] ++ [.ptr 3 0 0, .ptr 0 0 0, .ptr 5 0 0, .ptr 4 0 0]) h0 = some (.ret undefA, h') := by
    rw [G_flow_Post_c1]
    exact e
  rw [run, callV_gen (Γ := flow_Post_G) (f := id_flow_Post_c1) (G := G_flow_Post_c1) rfl e', ldv_at hps'.pv (x := postV') rfl]
  have h1 := hx 9
  simp only [pureR, depthA, toRV, List.mapM_cons, List.mapM_nil, h1]
  rfl
end
end Go.Proofs.Ytknphnmhjmejaaa
