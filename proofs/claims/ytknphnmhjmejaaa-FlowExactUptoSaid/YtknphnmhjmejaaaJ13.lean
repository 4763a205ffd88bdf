/- Joined texts: Dg, Dh, Eb. No conditions but those of each. -/
import Derived.Test.YtknphnmhjmejaaaJ12
/-  The walk of immediate dominators: the function. No conditions. -/
namespace Go.Proofs.Ytknphnmhjmejaaa
set_option linter.unusedVariables false
theorem var_one {R : Type} {z x : AV} {h : Hp} (hc : vcells x = some [x]) (ho : oneA x = true) (K : AV → Hp → Option R) :
    (nwc 1 (some [z]) h fun p h2 => stv 1 h2 p x fun h3 => K p h3) = K (.ptr h.length 0 0) (h ++ [⟨0, 1, [x]⟩]) := by
  simp only [nwc]
  rw [stv_at (get_new _) (by simp) ho hc]
  simp
theorem Doms_run {cs : List RV} {d : Cd} (hd : IsCd cs d) (hf : formOk d.blocks = true) (hq : FlowOk d.blocks) {P : List Nat} (hP : IsPost d.blocks P) {post : RV} (hpost : IsInts post (P.map Int.ofNat)) :
    ∃ par h', Done (grOf hf hq hP) par ∧ fnA Try.prog ssa_Doms_G ssa_Doms_A ssa_Doms_R big Try.f42 ([RV.agg cs, post].map .rv) [] = some (.ret (.sl 3 0 0 d.blocks.length), h') ∧ h'[3]? = some ⟨0, 1, ((dl par d.blocks.length).set 0 (-1)).map ai⟩ := by
  obtain ⟨p, r, v, b, rfl, _, _, _, hb⟩ := hd
  have hl : 0 < d.blocks.length ∧ d.blocks.length ≤ 4096 := by
    simp only [formOk, Bool.and_eq_true, decide_eq_true_eq] at hf
    exact hf.1
  have g := grP hf hq hP
  have h0m : (grOf hf hq hP).num 0 + 1 = P.length := by
    obtain ⟨P0, e⟩ := hP.last
    have h2 : P0.length < P.length := by rw [e]; simp
    have h3 := List.Nodup.idxOf_getElem g.nd _ h2
    have h4 : P[P0.length] = 0 := by simp [e]
    rw [h4] at h3
    rw [g.num, h3, e]
    simp
  rw [List.map_cons, List.map_cons, List.map_nil, ssa_Doms_eq, box_agg, pad_ptr, ldv_at (get_new _) (by rfl), hb.len, mks_one (by omega) (by omega), var_one (by rfl) (by rfl), pad_ptr]
  rw [ldv_at (o := ([] : Hp).length) (by rfl) (by rfl), hb.len, mks_one (by omega) (by omega), var_one (by rfl) (by rfl), ldv_at (get_new _) (by rfl), sl_len]
  have hz : zrep [AV.rv (.int .i64 0)] d.blocks.length = (neg1 0 d.blocks.length).map ai := by simp [zrep, neg1]
  rw [hz]
  obtain ⟨h0, eh0⟩ : ∃ h0 : Hp, h0 = [⟨0, 1, [.rv p, .rv r, .rv v, .rv b]⟩, ⟨0, 1, (neg1 0 d.blocks.length).map ai⟩, ⟨0, 1, [.sl 1 0 0 d.blocks.length]⟩, ⟨0, 1, (neg1 0 d.blocks.length).map ai⟩, ⟨0, 1, [.sl 3 0 0 d.blocks.length]⟩] := ⟨_, rfl⟩
  have start : ∃ par' h', Done (grOf hf hq hP) par' ∧ DH P d.blocks.length par' h' ∧ ssa_Doms_l244 big big h0.length (.rv post) (.ptr 0 0 0) (.ptr 2 0 0) (.ptr 4 0 0) d.blocks.length ((0 : Nat) : Int) h0 = ssa_Doms_p511 big (.ptr 4 0 0) h' := by
    have hd0 : DB d.blocks.length (neg1 0 d.blocks.length) (neg1 0 d.blocks.length) h0 := by subst eh0; exact ⟨rfl, rfl, rfl, rfl⟩
    have hlen0 : h0.length = 5 := by subst eh0; rfl
    refine init_loop hl.2 big _ (.rv post) (.ptr 0 0 0) h0[0]? (fun o => ∃ par' h', Done (grOf hf hq hP) par' ∧ DH P d.blocks.length par' h' ∧ o = ssa_Doms_p511 big (.ptr 4 0 0) h') (fun h1 hlen1 h10 hd1 => ?_) d.blocks.length 0 big h0 (by omega) (by rw [big_val]; omega) hlen0 rfl hd0
    rw [ssa_Doms_p31_eq, hpost.len, List.length_map]
    have hple : P.length < big := by have := hpost.short; rw [List.length_map] at this; rw [big_val]; omega
    rw [neg1_rks P] at hd1
    have hd1' : DB d.blocks.length (rks P 0 d.blocks.length) (neg1 d.blocks.length d.blocks.length) h1 := ⟨hd1.o1, hd1.o2, by rw [neg1_rks P]; exact hd1.o3, hd1.o4⟩
    refine rank_loop g.nd g.lt hpost (neg1 d.blocks.length d.blocks.length) big _ (.ptr 0 0 0) h0[0]? (fun o => ∃ par' h', Done (grOf hf hq hP) par' ∧ DH P d.blocks.length par' h' ∧ o = ssa_Doms_p511 big (.ptr 4 0 0) h') (fun h2 hlen2 h20 hd2 => ?_) P.length 0 big h1 (by omega) hple hlen1 h10 hd1'
    have hds : neg1 d.blocks.length d.blocks.length = dl (fun _ => none) d.blocks.length := by
      apply List.ext_getElem?
      intro i
      by_cases hi : i < d.blocks.length
      · rw [dl_at hi]; simp [neg1, dlv, hi]
      · rw [List.getElem?_eq_none (by rw [neg1_len (Nat.le_refl _)]; omega), List.getElem?_eq_none (by rw [dl_len]; omega)]
    rw [hds] at hd2
    have e3 : ((dl (fun _ => none) d.blocks.length).map ai).set 0 (ai ((0 : Nat) : Int)) = (dl (upd (fun _ => none) 0 0) d.blocks.length).map ai := by rw [← dl_set hl.1, List.map_set]
    have h00 : h2[0]? = some ⟨0, 1, [.rv p, .rv r, .rv v, .rv b]⟩ := by rw [h20]; subst eh0; rfl
    rw [ssa_Doms_p63_eq, var_one (by rfl) (by rfl), ldv_at (get_old hd2.o4 _) (by rfl), show (0 : Int) = ((0 : Nat) : Int) from rfl, sl_at hl.1, stv_at (get_old hd2.o3 _) (by rw [List.length_map, dl_len]; exact hl.1) (by rfl) (by rfl), e3, var_one (by rfl) (by rfl)]
    have hl6 : ((h2 ++ [(⟨0, 1, [.func id_ssa_Doms_c1 [] [.ptr 2 0 0, .ptr 4 0 0]]⟩ : Ob)]).set 3 (⟨0, 1, (dl (upd (fun _ => none) 0 0) d.blocks.length).map ai⟩ : Ob) : Hp).length = 6 := by simp [hlen2]
    have K0 : Kept (grOf hf hq hP) (upd (fun _ => none) 0 0) ((grOf hf hq hP).num 0) := Kept.init upd_same fun x hx => by rw [upd_ne hx]
    have o5 : ((h2 ++ [(⟨0, 1, [.func id_ssa_Doms_c1 [] [.ptr 2 0 0, .ptr 4 0 0]]⟩ : Ob)]).set 3 (⟨0, 1, (dl (upd (fun _ => none) 0 0) d.blocks.length).map ai⟩ : Ob) : Hp)[5]? = some ⟨0, 1, [.func id_ssa_Doms_c1 [] [.ptr 2 0 0, .ptr 4 0 0]]⟩ := by
      refine get_set_ne (by omega) ?_
      rw [← hlen2]
      exact get_new _
    have hPle : P.length ≤ 4096 := by have := nodup_le _ P g.nd g.lt; omega
    have hsq : P.length * P.length ≤ 4096 * 4096 := Nat.mul_le_mul hPle hPle
    have hfin := pass_loop g rfl hl.2 (formOk_preds hf) h0m hpost hb big (((h2 ++ [(⟨0, 1, [.func id_ssa_Doms_c1 [] [.ptr 2 0 0, .ptr 4 0 0]]⟩ : Ob)]).set 3 (⟨0, 1, (dl (upd (fun _ => none) 0 0) d.blocks.length).map ai⟩ : Ob) : Hp) ++ [(⟨0, 1, [ab true]⟩ : Ob)]).length rfl (p := p) (r := r) (v := v) _ big (upd (fun _ => none) 0 0) 6
      (((h2 ++ [(⟨0, 1, [.func id_ssa_Doms_c1 [] [.ptr 2 0 0, .ptr 4 0 0]]⟩ : Ob)]).set 3 (⟨0, 1, (dl (upd (fun _ => none) 0 0) d.blocks.length).map ai⟩ : Ob) : Hp) ++ [(⟨0, 1, [ab true]⟩ : Ob)]) (Nat.le_refl _) (by rw [big_val]; omega) K0
      (fun x hx => by
        by_cases e : x = 0
        · rw [e]; exact (grOf hf hq hP).n0
        · rw [upd_ne e] at hx; exact absurd rfl hx)
      ⟨get_old (get_set_ne (by omega) (get_old hd2.o1 _)) _, get_old (get_set_ne (by omega) (get_old hd2.o2 _)) _, get_old (get_set_eq (get_old hd2.o3 _)) _, get_old (get_set_ne (by omega) (get_old hd2.o4 _)) _⟩
      (get_old (get_set_ne (by omega) (get_old h00 _)) _) (get_old o5 _) (by rw [← hl6]; exact get_new _) (Nat.le_refl _)
    rw [hl6, hlen2]
    exact hfin
  obtain ⟨par, h', hdone, hdh, hrun⟩ := start
  subst eh0
  have e3 : ((dl par d.blocks.length).map ai).set 0 (ai (-1)) = ((dl par d.blocks.length).set 0 (-1)).map ai := by rw [List.map_set]
  refine ⟨par, h'.set 3 ⟨0, 1, ((dl par d.blocks.length).set 0 (-1)).map ai⟩, hdone, ?_, get_set_eq hdh.o3⟩
  refine hrun.trans ?_
  rw [ssa_Doms_p511_eq, ldv_at hdh.o4 (by rfl), show (0 : Int) = ((0 : Nat) : Int) from rfl, sl_at hl.1, stv_at hdh.o3 (by rw [List.length_map, dl_len]; exact hl.1) (by rfl) (by rfl), e3, ldv_at (get_set_ne (by omega) hdh.o4) (by rfl)]
theorem Doms_spec {cs : List RV} {d : Cd} (hd : IsCd cs d) (hf : formOk d.blocks = true) (hq : FlowOk d.blocks) {P : List Nat} (hP : IsPost d.blocks P) {post : RV} (hpost : IsInts post (P.map Int.ofNat)) :
    ∃ par x, Done (grOf hf hq hP) par ∧ F_ssa_Doms [.agg cs, post] = some (.ret x) ∧ IsInts x ((dl par d.blocks.length).set 0 (-1)) := by
  obtain ⟨par, h', hdone, e, ho⟩ := Doms_run hd hf hq hP hpost
  have hl : d.blocks.length ≤ 4096 := by
    simp only [formOk, Bool.and_eq_true, decide_eq_true_eq] at hf
    exact hf.1.2
  refine ⟨par, .ros (ints ((dl par d.blocks.length).set 0 (-1))) d.blocks.length, hdone, ?_, ?_⟩
  · have := toRV_ints ho
    rw [List.length_set, dl_len] at this
    unfold F_ssa_Doms
    rw [e]
    simp only [pureR, this]
    rfl
  · have := IsInts.mk ((dl par d.blocks.length).set 0 (-1)) (by rw [List.length_set, dl_len]; omega)
    rw [List.length_set, dl_len] at this
    exact this
end Go.Proofs.Ytknphnmhjmejaaa
/-  The walk of immediate dominators: what the list of them says. No conditions. -/
namespace Go.Proofs.Ytknphnmhjmejaaa
set_option linter.unusedVariables false
theorem av_rch {bs : List Blk} {P : List Nat} (hf : formOk bs = true) (hq : FlowOk bs) (hP : IsPost bs P) {b k : Nat} (hk : k ∈ P) : (grOf hf hq hP).Av b k ↔ b ≠ 0 ∧ Rch bs (b : Int) 0 k := by
  have hl : 0 < bs.length := by
    simp only [formOk, Bool.and_eq_true, decide_eq_true_eq] at hf
    exact hf.1.1
  have hlt := (hP.facts (formOk_succs hf) hl).2.1
  constructor
  · intro h
    induction h with
    | root h0 => exact ⟨fun e => h0 e.symm, .start⟩
    | @step p x r hp hN hd ih =>
      have hpN : p ∈ P := (grOf hf hq hP).pin x hN p hp
      have hpl := hlt p hpN
      obtain ⟨h0, hr⟩ := ih hpN
      refine ⟨h0, .step hr (List.getElem?_eq_getElem hpl) ((sucs_mem hf hpl).1 ((prd_sucs hf hq hpl (hlt x hN)).2 hp)) (by omega)⟩
  · rintro ⟨h0, hr⟩
    have key : ∀ x, Rch bs (b : Int) 0 x → x ∈ P ∧ (grOf hf hq hP).Av b x := by
      intro x hx
      induction hx with
      | start => exact ⟨(grOf hf hq hP).n0, .root (fun e => h0 e.symm)⟩
      | @step a x c r hb hn hw ih =>
        obtain ⟨haP, hav⟩ := ih
        have hal := hlt a haP
        have e : c = bs[a] := by rw [List.getElem?_eq_getElem hal] at hb; exact (Option.some.inj hb).symm
        subst e
        have hs : x ∈ sucs bs a := (sucs_mem hf hal).2 hn
        have hxP : x ∈ P := (hP.mem x).2 (.step ((hP.mem a).1 haP) hs)
        exact ⟨hxP, .step hav ((prd_sucs hf hq hal (hlt x hxP)).1 hs) hxP (by omega)⟩
    exact (key k hr).2
/-- The list's words: of the first block -1. -/
def dv (par : Par) (x : Nat) : Int := if x = 0 then -1 else dlv par x
def dvs (par : Par) (n : Nat) : List Int := (dl par n).set 0 (-1)
theorem dvs_len (par : Par) (n : Nat) : (dvs par n).length = n := by rw [dvs, List.length_set, dl_len]
theorem dvs_at {par : Par} {n x : Nat} (hx : x < n) : (dvs par n)[x]? = some (dv par x) := by
  rw [dvs, List.getElem?_set, dv]
  by_cases e : x = 0
  · subst e
    simp [dl_len, hx]
  · rw [if_neg (fun h => e h.symm), dl_at hx, if_neg e]
section
variable {G : Gr} {par : Par}
theorem Done.dv_step (k : Done G par) {x : Nat} (hx : G.N x) : (x = 0 ∧ dv par x = -1) ∨ (x ≠ 0 ∧ ∃ y : Nat, par x = some y ∧ dv par x = (y : Int) ∧ G.N y ∧ G.num x < G.num y) := by
  by_cases e : x = 0
  · exact .inl ⟨e, by simp [dv, e]⟩
  · obtain ⟨y, hy⟩ := Option.ne_none_iff_exists'.1 (k.all x hx)
    obtain ⟨_, h2, h3, _⟩ := k.k.up x y e hy
    exact .inr ⟨e, y, hy, by rw [dv, if_neg e, dlv_some hy], h2, h3⟩
theorem Done.dv_hole (k : Done G par) {x : Nat} (hx : ¬ G.N x) : dv par x = -1 := by
  have : par x = none := by
    cases e : par x with
    | none => rfl
    | some y => exact absurd (k.hN x (by rw [e]; simp)) hx
  have h0 : x ≠ 0 := by rintro rfl; exact hx G.n0
  rw [dv, if_neg h0]
  simp [dlv, this]
theorem Done.anc0 (k : Done G par) {b : Nat} : Anc par 0 b ↔ b = 0 := ⟨fun h => k.k.nz h rfl, fun e => by rw [e]; exact .refl 0⟩
theorem anc_step {x y b : Nat} (hp : par x = some y) : Anc par x b ↔ x = b ∨ Anc par y b := by
  constructor
  · intro h
    by_cases e : x = b
    · exact .inl e
    · exact .inr (h.next e hp)
  · rintro (rfl | h)
    · exact .refl _
    · exact .step hp h
end
theorem post_num0 {bs : List Blk} {P : List Nat} (hf : formOk bs = true) (hq : FlowOk bs) (hP : IsPost bs P) : (grOf hf hq hP).num 0 + 1 = P.length := by
  have g := grP hf hq hP
  obtain ⟨P0, e⟩ := hP.last
  have h2 : P0.length < P.length := by rw [e]; simp
  have h3 := List.Nodup.idxOf_getElem g.nd _ h2
  have h4 : P[P0.length] = 0 := by simp [e]
  rw [h4] at h3
  rw [g.num, h3, e]
  simp
theorem dvs_get {par : Par} {n y : Nat} (h : y < (dvs par n).length) : (dvs par n)[y] = dv par y := by
  have hy : y < n := by rwa [dvs_len] at h
  have := dvs_at (par := par) hy
  rw [List.getElem?_eq_getElem h] at this
  exact Option.some.inj this
theorem Done.ups {G : Gr} {par : Par} (k : Done G par) {P : List Nat} {n : Nat} (g : GrP G P n) : ∀ y ∈ dvs par n, (-1 : Int) ≤ y ∧ y < ((dvs par n).length : Int) := by
  intro y hy
  obtain ⟨i, hi, rfl⟩ := List.getElem_of_mem hy
  rw [dvs_get hi]
  rw [dvs_len] at hi ⊢
  by_cases hN : G.N i
  · rcases k.dv_step hN with ⟨_, e⟩ | ⟨_, q, _, e, hq, _⟩
    · rw [e]; omega
    · rw [e]
      have := g.lt q ((g.mem q).1 hq)
      omega
  · rw [k.dv_hole hN]; omega
theorem Done.exact {G : Gr} {par : Par} (k : Done G par) {b d : Nat} (hN : G.N b) : Anc par b d ↔ ¬ G.Av d b := k.k.exact k.all k.fix hN
theorem ssaPost_spec {cs : List RV} {d : Cd} {P : List Nat} (hd : IsCd cs d) (hl : 0 < d.blocks.length ∧ d.blocks.length ≤ 4096) (hok : okSuccs d.blocks) (hP : IsPost d.blocks P) :
    ∃ x, F_ssa_Post [.agg cs] = some (.ret x) ∧ IsInts x (P.map Int.ofNat) := by
  obtain ⟨x, e, hx⟩ := reached_spec hd hl hok hP
  refine ⟨x, ?_, hx⟩
  obtain ⟨p, r, v, b, rfl, _, _, _, hb⟩ := hd
  unfold F_ssa_Post
  rw [List.map_cons, List.map_nil, ssa_Post_eq, box_agg, List.nil_append, List.length_nil, show List.map AV.rv [p, r, v, b] = [.rv p, .rv r, .rv v, .rv b] from rfl, ldg_at (by rfl) (by rfl), callP_ret (by simp [toRV, depthA]) e (.inl rfl)]
  simp [pureR, toRV, depthA]
theorem flowDoms_bad {cs : List RV} {d : Cd} (hd : IsCd cs d) : (formOk d.blocks = false → F_flow_Doms [.agg cs] = some (.ret (.tuple [.nils, I 130]))) ∧ (formOk d.blocks = true → ¬ FlowOk d.blocks → F_flow_Doms [.agg cs] = some (.ret (.tuple [.nils, I 131]))) := by
  have hd' := hd
  obtain ⟨p, r, v, b, rfl, _, _, _, hb⟩ := hd
  have key : ∀ e : Int, e ≠ 0 → F_ssa_Flow [.agg [p, r, v, b]] = some (.ret (I e)) → F_flow_Doms [.agg [p, r, v, b]] = some (.ret (.tuple [.nils, I e])) := by
    intro e he hF
    unfold F_flow_Doms
    rw [List.map_cons, List.map_nil, flow_Doms_eq, box_agg, List.nil_append, List.length_nil, show List.map AV.rv [p, r, v, b] = [.rv p, .rv r, .rv v, .rv b] from rfl, ldg_at (by rfl) (by rfl), callP_ret (by simp [toRV, depthA]) hF (.inr rfl), asInt_i, bsp_of (by simpa using he)]
    simp [pureR, toRV, depthA]
  exact ⟨fun h => key 130 (by omega) ((ssaFlow_spec hd').1 h), fun h q => key 131 (by omega) ((ssaFlow_spec hd').2.2 h q)⟩
theorem flowDoms_spec {cs : List RV} {d : Cd} (hd : IsCd cs d) (hf : formOk d.blocks = true) (hq : FlowOk d.blocks) {P : List Nat} (hP : IsPost d.blocks P) :
    ∃ par x, Done (grOf hf hq hP) par ∧ F_flow_Doms [.agg cs] = some (.ret (.tuple [x, I 0])) ∧ IsInts x (dvs par d.blocks.length) := by
  have hl : 0 < d.blocks.length ∧ d.blocks.length ≤ 4096 := by
    simp only [formOk, Bool.and_eq_true, decide_eq_true_eq] at hf
    exact hf.1
  obtain ⟨y, e1, hy⟩ := ssaPost_spec hd hl (formOk_succs hf) hP
  obtain ⟨par, x, hdone, e2, hx⟩ := Doms_spec hd hf hq hP hy
  refine ⟨par, x, hdone, ?_, hx⟩
  have e0 := (ssaFlow_spec hd).2.1 hf hq
  obtain ⟨p, r, v, b, rfl, _, _, _, hb⟩ := hd
  unfold F_flow_Doms
  rw [List.map_cons, List.map_nil, flow_Doms_eq, box_agg, List.nil_append, List.length_nil, show List.map AV.rv [p, r, v, b] = [.rv p, .rv r, .rv v, .rv b] from rfl, ldg_at (by rfl) (by rfl), callP_ret (by simp [toRV, depthA]) e0 (.inr rfl), asInt_i, bsp_not (by rfl),
    ldg_at (by rfl) (by rfl), ldg_at (by rfl) (by rfl), callP_ret (by simp [toRV, depthA]) e1 (.inl rfl), callP_ret (by simp [toRV, depthA]) e2 (.inl rfl)]
  simp [pureR, toRV, depthA]
end Go.Proofs.Ytknphnmhjmejaaa
/-  A tree's blocks numbered on the way in and out, by a stack: plain. No conditions. -/
namespace Go.Proofs.Ytknphnmhjmejaaa
set_option linter.unusedVariables false
theorem nodup_rev {l : List Nat} (h : l.Nodup) : l.reverse.Nodup := List.pairwise_reverse.2 (h.imp fun h => Ne.symm h)
/-- What stands on the stack: to be entered, or to be left. -/
abbrev Itm := Bool × Nat
def put (f : Nat → Nat) (b n : Nat) : Nat → Nat := fun x => if x = b then n else f x
theorem put_same {f : Nat → Nat} {b n : Nat} : put f b n b = n := by simp [put]
theorem put_ne {f : Nat → Nat} {b n x : Nat} (h : x ≠ b) : put f b n x = f x := by simp [put, h]
inductive TRun (kids : Nat → List Nat) : List Itm → Nat → (Nat → Nat) → (Nat → Nat) → Nat → Nat → (Nat → Nat) → (Nat → Nat) → Prop
  | done (n i o) : TRun kids [] n i o 0 n i o
  | leave {b S n i o m n' i' o'} (r : TRun kids S n i (put o b n) m n' i' o') : TRun kids ((false, b) :: S) n i o (m + 1) n' i' o'
  | enter {b S n i o m n' i' o'} (r : TRun kids ((kids b).reverse.map (fun c => (true, c)) ++ (false, b) :: S) (n + 1) (put i b (n + 1)) o m n' i' o') : TRun kids ((true, b) :: S) n i o (m + 1) n' i' o'
/-- The items are worked off, whatever lies below them. -/
def Big (kids : Nat → List Nat) (l : List Itm) (n : Nat) (i o : Nat → Nat) (k n' : Nat) (i' o' : Nat → Nat) : Prop :=
  ∀ S m n2 i2 o2, TRun kids S n' i' o' m n2 i2 o2 → TRun kids (l ++ S) n i o (k + m) n2 i2 o2
structure Iv (par : Par) (X : Nat → Prop) (n : Nat) (i o : Nat → Nat) (n' : Nat) (i' o' : Nat → Nat) : Prop where
  le : n ≤ n'
  rng : ∀ x, X x → n < i' x ∧ i' x ≤ o' x ∧ o' x ≤ n'
  fi : ∀ x, ¬ X x → i' x = i x
  fo : ∀ x, ¬ X x → o' x = o x
  onto : ∀ j, n < j → j ≤ n' → ∃ x, X x ∧ i' x = j
  anc : ∀ x y, X x → X y → ((i' x ≤ i' y ∧ o' y ≤ o' x) ↔ Anc par y x)
section
variable {par : Par} {kids : Nat → List Nat}
theorem Iv.nil (n : Nat) (i o : Nat → Nat) : Iv par (fun _ => False) n i o n i o :=
  ⟨Nat.le_refl _, fun _ h => h.elim, fun _ _ => rfl, fun _ _ => rfl, fun j h1 h2 => by omega, fun _ _ h => h.elim⟩
theorem Iv.app {X Y : Nat → Prop} {n n1 n2 : Nat} {i o i1 o1 i2 o2 : Nat → Nat} (a : Iv par X n i o n1 i1 o1) (b : Iv par Y n1 i1 o1 n2 i2 o2) (hd : ∀ x, X x → ¬ Y x) (h1 : ∀ x y, X x → Y y → ¬ Anc par y x) (h2 : ∀ x y, X x → Y y → ¬ Anc par x y) :
    Iv par (fun x => X x ∨ Y x) n i o n2 i2 o2 where
  le := Nat.le_trans a.le b.le
  rng x hx := by
    rcases hx with hx | hx
    · have := a.rng x hx
      rw [b.fi x (hd x hx), b.fo x (hd x hx)]
      have := b.le
      omega
    · have := b.rng x hx
      have := a.le
      omega
  fi x hx := by rw [b.fi x fun h => hx (.inr h), a.fi x fun h => hx (.inl h)]
  fo x hx := by rw [b.fo x fun h => hx (.inr h), a.fo x fun h => hx (.inl h)]
  onto j hj1 hj2 := by
    by_cases h : j ≤ n1
    · obtain ⟨x, hx, e⟩ := a.onto j hj1 h
      exact ⟨x, .inl hx, by rw [b.fi x (hd x hx)]; exact e⟩
    · obtain ⟨x, hx, e⟩ := b.onto j (by omega) hj2
      exact ⟨x, .inr hx, e⟩
  anc x y hx hy := by
    rcases hx with hx | hx <;> rcases hy with hy | hy
    · rw [b.fi x (hd x hx), b.fo x (hd x hx), b.fi y (hd y hy), b.fo y (hd y hy)]
      exact a.anc x y hx hy
    · have k1 := a.rng x hx
      have k2 := b.rng y hy
      rw [b.fi x (hd x hx), b.fo x (hd x hx)]
      exact ⟨fun h => by omega, fun h => absurd h (h1 x y hx hy)⟩
    · have k1 := a.rng y hy
      have k2 := b.rng x hx
      rw [b.fi y (hd y hy), b.fo y (hd y hy)]
      exact ⟨fun h => by omega, fun h => absurd h (h2 y x hy hx)⟩
    · exact b.anc x y hx hy
/-- One block is worked off so. -/
def Node (par : Par) (kids : Nat → List Nat) (b : Nat) : Prop :=
  ∀ n i o, ∃ k n' i' o', Big kids [(true, b)] n i o k n' i' o' ∧ Iv par (fun x => Anc par x b) n i o n' i' o' ∧ k = 2 * (n' - n)
theorem nodes : ∀ (L : List Nat), L.Nodup → (∀ c ∈ L, Node par kids c) → (∀ c ∈ L, ∀ c' ∈ L, c ≠ c' → ∀ x, Anc par x c → ¬ Anc par x c') → ∀ n i o, ∃ k n' i' o', Big kids (L.map fun c => (true, c)) n i o k n' i' o' ∧ Iv par (fun x => ∃ c ∈ L, Anc par x c) n i o n' i' o' ∧ k = 2 * (n' - n)
  | [], _, _, _, n, i, o => by
    refine ⟨0, n, i, o, fun S m n2 i2 o2 h => by simpa using h, ⟨Nat.le_refl _, fun x hx => ?_, fun _ _ => rfl, fun _ _ => rfl, fun j h1 h2 => by omega, fun x y hx => ?_⟩, by omega⟩
    · obtain ⟨c, hc, _⟩ := hx; cases hc
    · obtain ⟨c, hc, _⟩ := hx; cases hc
  | c :: L, hnd, hn, hdis, n, i, o => by
    obtain ⟨hc, hnd'⟩ := List.nodup_cons.1 hnd
    obtain ⟨k1, n1, i1, o1, B1, I1, e1⟩ := hn c (by simp) n i o
    obtain ⟨k2, n2, i2, o2, B2, I2, e2⟩ := nodes L hnd' (fun d hd => hn d (by simp [hd])) (fun d hd d' hd' => hdis d (by simp [hd]) d' (by simp [hd'])) n1 i1 o1
    have dis : ∀ x, Anc par x c → ¬ ∃ d ∈ L, Anc par x d := by
      rintro x hx ⟨d, hd, hxd⟩
      exact hdis c (by simp) d (by simp [hd]) (fun e => hc (e ▸ hd)) x hx hxd
    refine ⟨k1 + k2, n2, i2, o2, fun S m n3 i3 o3 h => ?_, ?_, ?_⟩
    · have := B1 _ _ _ _ _ (B2 S m n3 i3 o3 h)
      rw [List.map_cons, List.cons_append]
      rw [List.singleton_append] at this
      rw [Nat.add_assoc]
      exact this
    · have I := I1.app I2 dis (fun x y hx ⟨d, hd, hyd⟩ ha => dis y (ha.trans hx) ⟨d, hd, hyd⟩) (fun x y hx ⟨d, hd, hyd⟩ ha => dis x hx ⟨d, hd, ha.trans hyd⟩)
      have heq : (fun x => Anc par x c ∨ ∃ d ∈ L, Anc par x d) = fun x => ∃ d ∈ c :: L, Anc par x d := by
        funext x
        simp
      rw [heq] at I
      exact I
    · have := I1.le
      have := I2.le
      omega
end
section
variable {G : Gr} {par : Par} {P : List Nat} {n : Nat}
/-- What stands right below a block in the tree, in postorder. -/
def kidsOf (par : Par) (P : List Nat) (y : Nat) : List Nat := P.filter fun b => dv par b == (y : Int)
theorem kids_mem (kd : Done G par) (g : GrP G P n) {b y : Nat} : b ∈ kidsOf par P y ↔ G.N b ∧ b ≠ 0 ∧ par b = some y := by
  rw [kidsOf, List.mem_filter, ← g.mem]
  constructor
  · rintro ⟨hb, he⟩
    have he : dv par b = (y : Int) := by simpa using he
    rcases kd.dv_step hb with ⟨_, e⟩ | ⟨h0, q, hq, e, _⟩
    · rw [e] at he; omega
    · rw [e] at he
      have : q = y := by omega
      exact ⟨hb, h0, this ▸ hq⟩
  · rintro ⟨hb, h0, hp⟩
    refine ⟨hb, ?_⟩
    rw [dv, if_neg h0, dlv_some hp]
    simp
theorem Done.sub (kd : Done G par) (g : GrP G P n) {b : Nat} (hb : G.N b) {x : Nat} : Anc par x b ↔ x = b ∨ ∃ c ∈ kidsOf par P b, Anc par x c := by
  constructor
  · intro h
    induction h with
    | refl => exact .inl rfl
    | @step x y b hp r ih =>
      by_cases hx : x = 0
      · subst hx
        rw [kd.k.root] at hp
        cases hp
        exact ih hb
      · rcases ih hb with rfl | ⟨c, hc, h⟩
        · exact .inr ⟨x, (kids_mem kd g).2 ⟨kd.hN x (by rw [hp]; simp), hx, hp⟩, .refl x⟩
        · exact .inr ⟨c, hc, .step hp h⟩
  · rintro (rfl | ⟨c, hc, h⟩)
    · exact .refl x
    · exact h.trans (.step ((kids_mem kd g).1 hc).2.2 (.refl b))
theorem Done.kid_lt (kd : Done G par) (g : GrP G P n) {b c : Nat} (h : c ∈ kidsOf par P b) : G.N c ∧ G.num c < G.num b := by
  obtain ⟨h1, h2, h3⟩ := (kids_mem kd g).1 h
  exact ⟨h1, (kd.k.up c b h2 h3).2.2.1⟩
theorem Done.kid_apart (kd : Done G par) (g : GrP G P n) {b c c' : Nat} (h : c ∈ kidsOf par P b) (h' : c' ∈ kidsOf par P b) (hne : c ≠ c') {x : Nat} (hx : Anc par x c) : ¬ Anc par x c' := by
  intro hx'
  obtain ⟨h1, h2, h3⟩ := (kids_mem kd g).1 h
  obtain ⟨h1', h2', h3'⟩ := (kids_mem kd g).1 h'
  have l1 := (kd.k.up c b h2 h3).2.2.1
  have l2 := (kd.k.up c' b h2' h3').2.2.1
  rcases hx.linear hx' with k | k
  · have := kd.k.le' (k.next hne h3)
    omega
  · have := kd.k.le' (k.next (fun e => hne e.symm) h3')
    omega
theorem Done.node (kd : Done G par) (g : GrP G P n) : ∀ (w b : Nat), G.num b ≤ w → G.N b → Node par (kidsOf par P) b := by
  intro w
  induction w with
  | zero =>
    intro b hb hN n i o
    have hk : kidsOf par P b = [] := by
      rw [List.eq_nil_iff_forall_not_mem]
      intro c hc
      have := (kd.kid_lt g hc).2
      omega
    have hX : ∀ x, Anc par x b ↔ x = b := fun x => by rw [kd.sub g hN, hk]; simp
    refine ⟨2, n + 1, put i b (n + 1), put o b (n + 1), fun S m n2 i2 o2 h => ?_, ⟨by omega, fun x hx => ?_, fun x hx => ?_, fun x hx => ?_, fun j h1 h2 => ?_, fun x y hx hy => ?_⟩, by omega⟩
    · rw [List.singleton_append, show 2 + m = m + 1 + 1 by omega]
      refine .enter ?_
      rw [hk]
      exact .leave h
    · rw [hX] at hx; subst hx; rw [put_same, put_same]; omega
    · rw [hX] at hx; exact put_ne hx
    · rw [hX] at hx; exact put_ne hx
    · exact ⟨b, .refl b, by rw [put_same]; omega⟩
    · rw [hX] at hx hy
      subst hx; subst hy
      exact ⟨fun _ => .refl _, fun _ => ⟨Nat.le_refl _, Nat.le_refl _⟩⟩
  | succ w ih =>
    intro b hb hN n i o
    have hkid : ∀ c ∈ (kidsOf par P b).reverse, Node par (kidsOf par P) c := fun c hc => by
      have := kd.kid_lt g (List.mem_reverse.1 hc)
      exact ih c (by omega) this.1
    have hnd : (kidsOf par P b).reverse.Nodup := nodup_rev (g.nd.filter _)
    obtain ⟨k, n2, i2, o2, B, I, e⟩ := nodes (kidsOf par P b).reverse hnd hkid (fun c hc c' hc' hne x hx => kd.kid_apart g (List.mem_reverse.1 hc) (List.mem_reverse.1 hc') hne hx) (n + 1) (put i b (n + 1)) o
    have hX : ∀ x, Anc par x b ↔ x = b ∨ ∃ c ∈ (kidsOf par P b).reverse, Anc par x c := fun x => by rw [kd.sub g hN]; simp
    have hbX : ¬ ∃ c ∈ (kidsOf par P b).reverse, Anc par b c := by
      rintro ⟨c, hc, h⟩
      have l1 := (kd.kid_lt g (List.mem_reverse.1 hc)).2
      have := kd.k.le' h
      omega
    have hib : i2 b = n + 1 := by rw [I.fi b hbX, put_same]
    have hle := I.le
    have hXb : ∀ x, (∃ c ∈ (kidsOf par P b).reverse, Anc par x c) → x ≠ b := fun x hx e => hbX (e ▸ hx)
    refine ⟨k + 2, n2, i2, put o2 b n2, fun S m n3 i3 o3 h => ?_, ⟨by omega, fun x hx => ?_, fun x hx => ?_, fun x hx => ?_, fun j h1 h2 => ?_, fun x y hx hy => ?_⟩, by omega⟩
    · rw [List.singleton_append, show k + 2 + m = (k + (m + 1)) + 1 by omega]
      exact .enter (B _ _ _ _ _ (.leave h))
    · rcases (hX x).1 hx with rfl | hx
      · rw [put_same, hib]; omega
      · have := I.rng x hx
        rw [put_ne (hXb x hx)]
        omega
    · rw [hX] at hx
      rw [I.fi x fun h => hx (.inr h), put_ne fun h => hx (.inl h)]
    · rw [hX] at hx
      rw [put_ne fun h => hx (.inl h), I.fo x fun h => hx (.inr h)]
    · by_cases e : j = n + 1
      · exact ⟨b, .refl b, by rw [hib, e]⟩
      · obtain ⟨x, hx, ex⟩ := I.onto j (by omega) h2
        exact ⟨x, (hX x).2 (.inr hx), ex⟩
    · rcases (hX x).1 hx with rfl | hx <;> rcases (hX y).1 hy with rfl | hy
      · exact ⟨fun _ => .refl _, fun _ => ⟨Nat.le_refl _, Nat.le_refl _⟩⟩
      · have := I.rng y hy
        rw [hib, put_same, put_ne (hXb y hy)]
        refine ⟨fun _ => (hX y).2 (.inr hy), fun _ => by omega⟩
      · have := I.rng x hx
        rw [hib]
        refine ⟨fun h => by omega, fun h => ?_⟩
        obtain ⟨c, hc, hxc⟩ := hx
        exact absurd ⟨c, hc, h.trans hxc⟩ hbX
      · rw [put_ne (hXb x hx), put_ne (hXb y hy)]
        exact I.anc x y hx hy
/-- From the first block on: its numbers tell what stands above what. -/
theorem Done.tree (kd : Done G par) (g : GrP G P n) (i o : Nat → Nat) : ∃ m n' i' o', TRun (kidsOf par P) [(true, 0)] 0 i o m n' i' o' ∧ m ≤ 2 * P.length ∧ n' ≤ P.length ∧ (∀ x, G.N x → i' x ≤ n' ∧ o' x ≤ n') ∧
    (∀ x y, G.N x → G.N y → ((i' x ≤ i' y ∧ o' y ≤ o' x) ↔ Anc par y x)) := by
  obtain ⟨k, n', i', o', B, I, e⟩ := kd.node g (G.num 0) 0 (Nat.le_refl _) G.n0 0 i o
  have h0 : ∀ x, G.N x → Anc par x 0 := by
    have key : ∀ w x, P.length - G.num x ≤ w → G.N x → Anc par x 0 := by
      intro w
      induction w with
      | zero =>
        intro x hw hx
        have h1 := g.le0 hx
        have h2 : G.num 0 < P.length := by rw [g.num]; exact List.idxOf_lt_length_iff.2 ((g.mem 0).1 G.n0)
        omega
      | succ w ih =>
        intro x hw hx
        rcases kd.dv_step hx with ⟨rfl, _⟩ | ⟨_, y, hy, _, hN, hlt⟩
        · exact .refl 0
        · exact .step hy (ih y (by omega) hN)
    exact fun x hx => key _ x (Nat.le_refl _) hx
  have hlen : n' ≤ P.length := by
    have hch : ∃ f : Nat → Nat, ∀ j, j < n' → Anc par (f j) 0 ∧ i' (f j) = j + 1 := by
      have : ∀ j, ∃ x, j < n' → Anc par x 0 ∧ i' x = j + 1 := fun j => by
        by_cases h : j < n'
        · obtain ⟨x, h1, h2⟩ := I.onto (j + 1) (by omega) (by omega)
          exact ⟨x, fun _ => ⟨h1, h2⟩⟩
        · exact ⟨0, fun h' => absurd h' h⟩
      exact ⟨fun j => (this j).choose, fun j => (this j).choose_spec⟩
    obtain ⟨f, hf⟩ := hch
    have hnd : ((List.range n').map f).Nodup := by
      rw [List.nodup_iff_pairwise_ne, List.pairwise_map]
      refine List.Pairwise.imp_of_mem ?_ List.nodup_range
      intro a b ha hb hne e
      have h1 := (hf a (List.mem_range.1 ha)).2
      have h2 := (hf b (List.mem_range.1 hb)).2
      rw [e, h2] at h1
      exact hne (by omega)
    have := nodup_sub_le ((List.range n').map f) P hnd (fun y hy => by
      rw [List.mem_map] at hy
      obtain ⟨j, hj, rfl⟩ := hy
      have h1 := (hf j (List.mem_range.1 hj)).1
      rw [← g.mem]
      generalize f j = x at h1
      cases h1 with
      | refl => exact G.n0
      | step hp _ => exact kd.hN _ (by rw [hp]; simp))
    simpa using this
  refine ⟨k, n', i', o', by simpa using B [] 0 _ _ _ (.done _ _ _), by omega, hlen, fun x hx => ?_, fun x y hx hy => I.anc x y (h0 x hx) (h0 y hy)⟩
  have := I.rng x (h0 x hx)
  omega
end
end Go.Proofs.Ytknphnmhjmejaaa
