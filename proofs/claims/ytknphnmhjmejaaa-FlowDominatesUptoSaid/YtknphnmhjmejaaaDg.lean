/-  The walk of immediate dominators: the function. No conditions. -/
import Derived.Test.YtknphnmhjmejaaaDf
namespace Go.Proofs.Ytknphnmhjmejaaa
set_option linter.unusedVariables false
theorem var_one {R : Type} {z x : AV} {h : Hp} (hc : vcells x = some [x]) (ho : oneA x = true) (K : AV → Hp → Option R) :
    (nwc 1 (some [z]) h fun p h2 => stv 1 h2 p x fun h3 => K p h3) = K (.ptr h.length 0 0) (h ++ [⟨0, 1, [x]⟩]) := by
  simp only [nwc]
  rw [stv_at (get_new _) (by simp) ho hc]
  simp
theorem Doms_spec {cs : List RV} {d : Cd} (hd : IsCd cs d) (hf : formOk d.blocks = true) (hq : FlowOk d.blocks) {P : List Nat} (hP : IsPost d.blocks P) {post : RV} (hpost : IsInts post (P.map Int.ofNat)) :
    ∃ par x, Done (grOf hf hq hP) par ∧ F_ssa_Doms [.agg cs, post] = some (.ret x) ∧ IsInts x ((dl par d.blocks.length).set 0 (-1)) := by
  obtain ⟨p, r, v, b, rfl, _, _, _, hb⟩ := hd
  have hl : 0 < d.blocks.length ∧ d.blocks.length ≤ 4096 := by
    simp only [formOk, Bool.and_eq_true, decide_eq_true_eq] at hf
    exact hf.1
  have g := grP hf hq hP
  have h0m : (grOf hf hq hP).num 0 + 1 = P.length := by
    obtain ⟨P0, e⟩ := hP.last
    have h2 : P0.length < P.length := by rw [e]; simp
    have h3 := List.Nodup.idxOf_getElem g.nd _ h2
    have h4 : P[P0.length] = 0 := by simp [e]
    rw [h4] at h3
    rw [g.num, h3, e]
    simp
  unfold F_ssa_Doms
  rw [List.map_cons, List.map_cons, List.map_nil, ssa_Doms_eq, box_agg, pad_ptr, ldv_at (get_new _) (by rfl), hb.len, mks_one (by omega) (by omega), var_one (by rfl) (by rfl), pad_ptr]
  rw [ldv_at (o := ([] : Hp).length) (by rfl) (by rfl), hb.len, mks_one (by omega) (by omega), var_one (by rfl) (by rfl), ldv_at (get_new _) (by rfl), sl_len]
  have hz : zrep [AV.rv (.int .i64 0)] d.blocks.length = (neg1 0 d.blocks.length).map ai := by simp [zrep, neg1]
  rw [hz]
  obtain ⟨h0, eh0⟩ : ∃ h0 : Hp, h0 = [⟨0, 1, [.rv p, .rv r, .rv v, .rv b]⟩, ⟨0, 1, (neg1 0 d.blocks.length).map ai⟩, ⟨0, 1, [.sl 1 0 0 d.blocks.length]⟩, ⟨0, 1, (neg1 0 d.blocks.length).map ai⟩, ⟨0, 1, [.sl 3 0 0 d.blocks.length]⟩] := ⟨_, rfl⟩
  have start : ∃ par' h', Done (grOf hf hq hP) par' ∧ DH P d.blocks.length par' h' ∧ ssa_Doms_l244 big big h0.length (.rv post) (.ptr 0 0 0) (.ptr 2 0 0) (.ptr 4 0 0) d.blocks.length ((0 : Nat) : Int) h0 = ssa_Doms_p511 big (.ptr 4 0 0) h' := by
    have hd0 : DB d.blocks.length (neg1 0 d.blocks.length) (neg1 0 d.blocks.length) h0 := by subst eh0; exact ⟨rfl, rfl, rfl, rfl⟩
    have hlen0 : h0.length = 5 := by subst eh0; rfl
    refine init_loop hl.2 big _ (.rv post) (.ptr 0 0 0) h0[0]? (fun o => ∃ par' h', Done (grOf hf hq hP) par' ∧ DH P d.blocks.length par' h' ∧ o = ssa_Doms_p511 big (.ptr 4 0 0) h') (fun h1 hlen1 h10 hd1 => ?_) d.blocks.length 0 big h0 (by omega) (by rw [big_val]; omega) hlen0 rfl hd0
    rw [ssa_Doms_p31_eq, hpost.len, List.length_map]
    have hple : P.length < big := by have := hpost.short; rw [List.length_map] at this; rw [big_val]; omega
    rw [neg1_rks P] at hd1
    have hd1' : DB d.blocks.length (rks P 0 d.blocks.length) (neg1 d.blocks.length d.blocks.length) h1 := ⟨hd1.o1, hd1.o2, by rw [neg1_rks P]; exact hd1.o3, hd1.o4⟩
    refine rank_loop g.nd g.lt hpost (neg1 d.blocks.length d.blocks.length) big _ (.ptr 0 0 0) h0[0]? (fun o => ∃ par' h', Done (grOf hf hq hP) par' ∧ DH P d.blocks.length par' h' ∧ o = ssa_Doms_p511 big (.ptr 4 0 0) h') (fun h2 hlen2 h20 hd2 => ?_) P.length 0 big h1 (by omega) hple hlen1 h10 hd1'
    have hds : neg1 d.blocks.length d.blocks.length = dl (fun _ => none) d.blocks.length := by
      apply List.ext_getElem?
      intro i
      by_cases hi : i < d.blocks.length
      · rw [dl_at hi]; simp [neg1, dlv, hi]
      · rw [List.getElem?_eq_none (by rw [neg1_len (Nat.le_refl _)]; omega), List.getElem?_eq_none (by rw [dl_len]; omega)]
    rw [hds] at hd2
    have e3 : ((dl (fun _ => none) d.blocks.length).map ai).set 0 (ai ((0 : Nat) : Int)) = (dl (upd (fun _ => none) 0 0) d.blocks.length).map ai := by rw [← dl_set hl.1, List.map_set]
    have h00 : h2[0]? = some ⟨0, 1, [.rv p, .rv r, .rv v, .rv b]⟩ := by rw [h20]; subst eh0; rfl
    rw [ssa_Doms_p63_eq, var_one (by rfl) (by rfl), ldv_at (get_old hd2.o4 _) (by rfl), show (0 : Int) = ((0 : Nat) : Int) from rfl, sl_at hl.1, stv_at (get_old hd2.o3 _) (by rw [List.length_map, dl_len]; exact hl.1) (by rfl) (by rfl), e3, var_one (by rfl) (by rfl)]
    have hl6 : ((h2 ++ [(⟨0, 1, [.func id_ssa_Doms_c1 [] [.ptr 2 0 0, .ptr 4 0 0]]⟩ : Ob)]).set 3 (⟨0, 1, (dl (upd (fun _ => none) 0 0) d.blocks.length).map ai⟩ : Ob) : Hp).length = 6 := by simp [hlen2]
    have K0 : Kept (grOf hf hq hP) (upd (fun _ => none) 0 0) ((grOf hf hq hP).num 0) := Kept.init upd_same fun x hx => by rw [upd_ne hx]
    have o5 : ((h2 ++ [(⟨0, 1, [.func id_ssa_Doms_c1 [] [.ptr 2 0 0, .ptr 4 0 0]]⟩ : Ob)]).set 3 (⟨0, 1, (dl (upd (fun _ => none) 0 0) d.blocks.length).map ai⟩ : Ob) : Hp)[5]? = some ⟨0, 1, [.func id_ssa_Doms_c1 [] [.ptr 2 0 0, .ptr 4 0 0]]⟩ := by
      refine get_set_ne (by omega) ?_
      rw [← hlen2]
      exact get_new _
    have hPle : P.length ≤ 4096 := by have := nodup_le _ P g.nd g.lt; omega
    have hsq : P.length * P.length ≤ 4096 * 4096 := Nat.mul_le_mul hPle hPle
    have hfin := pass_loop g rfl hl.2 (formOk_preds hf) h0m hpost hb big (((h2 ++ [(⟨0, 1, [.func id_ssa_Doms_c1 [] [.ptr 2 0 0, .ptr 4 0 0]]⟩ : Ob)]).set 3 (⟨0, 1, (dl (upd (fun _ => none) 0 0) d.blocks.length).map ai⟩ : Ob) : Hp) ++ [(⟨0, 1, [ab true]⟩ : Ob)]).length rfl (p := p) (r := r) (v := v) _ big (upd (fun _ => none) 0 0) 6
      (((h2 ++ [(⟨0, 1, [.func id_ssa_Doms_c1 [] [.ptr 2 0 0, .ptr 4 0 0]]⟩ : Ob)]).set 3 (⟨0, 1, (dl (upd (fun _ => none) 0 0) d.blocks.length).map ai⟩ : Ob) : Hp) ++ [(⟨0, 1, [ab true]⟩ : Ob)]) (Nat.le_refl _) (by rw [big_val]; omega) K0
      (fun x hx => by
        by_cases e : x = 0
        · rw [e]; exact (grOf hf hq hP).n0
        · rw [upd_ne e] at hx; exact absurd rfl hx)
      ⟨get_old (get_set_ne (by omega) (get_old hd2.o1 _)) _, get_old (get_set_ne (by omega) (get_old hd2.o2 _)) _, get_old (get_set_eq (get_old hd2.o3 _)) _, get_old (get_set_ne (by omega) (get_old hd2.o4 _)) _⟩
      (get_old (get_set_ne (by omega) (get_old h00 _)) _) (get_old o5 _) (by rw [← hl6]; exact get_new _) (Nat.le_refl _)
    rw [hl6, hlen2]
    exact hfin
  obtain ⟨par, h', hdone, hdh, hrun⟩ := start
  subst eh0
  refine ⟨par, .ros (ints ((dl par d.blocks.length).set 0 (-1))) d.blocks.length, hdone, ?_, ?_⟩
  · refine (congrArg pureR hrun).trans ?_
    have e3 : ((dl par d.blocks.length).map ai).set 0 (ai (-1)) = ((dl par d.blocks.length).set 0 (-1)).map ai := by rw [List.map_set]
    rw [ssa_Doms_p511_eq, ldv_at hdh.o4 (by rfl), show (0 : Int) = ((0 : Nat) : Int) from rfl, sl_at hl.1, stv_at hdh.o3 (by rw [List.length_map, dl_len]; exact hl.1) (by rfl) (by rfl), e3, ldv_at (get_set_ne (by omega) hdh.o4) (by rfl)]
    have := toRV_ints (v := 0) (o := 3) (h := h'.set 3 ⟨0, 1, ((dl par d.blocks.length).set 0 (-1)).map ai⟩) (xs := (dl par d.blocks.length).set 0 (-1)) (get_set_eq hdh.o3)
    rw [List.length_set, dl_len] at this
    simp only [pureR, this]
    rfl
  · have := IsInts.mk ((dl par d.blocks.length).set 0 (-1)) (by rw [List.length_set, dl_len]; omega)
    rw [List.length_set, dl_len] at this
    exact this
end Go.Proofs.Ytknphnmhjmejaaa
