/- Joined texts: Eg, E0. No conditions but those of each. -/
import Derived.Test.YtknphnmhjmejaaaJ15
import Derived.Test.YtknphnmhjmejaaaJ14
/-  What the program tells of loops. No conditions. -/
namespace Go.Proofs.Ytknphnmhjmejaaa
set_option linter.unusedVariables false
section
variable {bs : List Blk} {P : List Nat} {par : Par}
theorem InB.over {hf : formOk bs = true} {hq : FlowOk bs} {hP : IsPost bs P} (kd : Done (grOf hf hq hP) par) {hd y : Nat} (hh : hd ∈ P) (h : InB bs par hd y) : y ∈ P ∧ Anc par y hd := by
  induction h with
  | head => exact ⟨hh, .refl _⟩
  | src h a => exact ⟨(grOf hf hq hP).pin hd hh _ h, a⟩
  | @back x p r hx h ih =>
    obtain ⟨hxP, ha⟩ := ih
    have hpP : p ∈ P := (grOf hf hq hP).pin x hxP p h
    refine ⟨hpP, (kd.exact (b := p) (d := hd) hpP).2 fun hav => ?_⟩
    exact (kd.exact (b := x) (d := hd) hxP).1 ha (.step hav h hxP hx)
theorem hole_prd (hf : formOk bs = true) (hq : FlowOk bs) (hP : IsPost bs P) {x : Nat} (hx : x < bs.length) (h : x ∉ P) : prd bs x = [] := by
  have hk : bs[x].kind = 0 := by
    apply Classical.byContradiction
    intro hk
    exact h ((post_kind hf hq hP (List.getElem?_eq_getElem hx)).2 hk)
  rw [prd_at hx, (blkOk_hole (formOk_mem hf (List.getElem_mem hx)) hk).1]
  rfl
theorem IsHead.inP (hf : formOk bs = true) (hq : FlowOk bs) (hP : IsPost bs P) {hd : Nat} (hl : hd < bs.length) (h : IsHead bs par hd) : hd ∈ P := by
  apply Classical.byContradiction
  intro hn
  obtain ⟨p, hp, _⟩ := h
  rw [hole_prd hf hq hP hl hn] at hp
  cases hp
theorem sorted_len : ∀ {l : List Int} {n : Nat}, l.Pairwise (· < ·) → (∀ y ∈ l, 0 ≤ y ∧ y < (n : Int)) → l.length ≤ n := by
  intro l n hs hb
  have hnd : (l.map Int.toNat).Nodup := by
    rw [List.nodup_iff_pairwise_ne, List.pairwise_map]
    refine List.Pairwise.imp_of_mem (fun {a b} ha hb' h => ?_) hs
    have := hb a ha
    omega
  have := nodup_le n (l.map Int.toNat) hnd (fun x hx => by
    rw [List.mem_map] at hx
    obtain ⟨y, hy, rfl⟩ := hx
    have := hb y hy
    omega)
  simpa using this
theorem Upto.body_lt {hf : formOk bs = true} {hq : FlowOk bs} {hP : IsPost bs P} (kd : Done (grOf hf hq hP) par) {l : List LR} (up : Upto bs par bs.length l) {x : LR} (hx : x ∈ l) {y : Int} (hy : y ∈ x.body) : ∃ z : Nat, y = z ∧ z ∈ P ∧ z < bs.length ∧ Anc par z x.head := by
  obtain ⟨hb, hl, hh⟩ := up.ok x hx
  obtain ⟨z, rfl, hz⟩ := (hb.mem y).1 hy
  obtain ⟨h1, h2⟩ := InB.over kd (hh.inP hf hq hP hl) hz
  exact ⟨z, rfl, h1, (grP hf hq hP).lt z h1, h2⟩
theorem Upto.inj {n : Nat} {l : List LR} (up : Upto bs par n l) {i j : Nat} {x y : LR} (hx : l[i]? = some x) (hy : l[j]? = some y) (h : x.head = y.head) : i = j := by
  have hi := List.getElem?_eq_some_iff.1 hx
  have hj := List.getElem?_eq_some_iff.1 hy
  rcases Nat.lt_trichotomy i j with h1 | h1 | h1
  · have := List.pairwise_iff_getElem.1 up.up i j hi.1 hj.1 h1
    rw [hi.2, hj.2] at this
    omega
  · exact h1
  · have := List.pairwise_iff_getElem.1 up.up j i hj.1 hi.1 h1
    rw [hi.2, hj.2] at this
    omega
theorem deep_ex {hf : formOk bs = true} {hq : FlowOk bs} {hP : IsPost bs P} (kd : Done (grOf hf hq hP) par) {l : List LR} (up : Upto bs par bs.length l) : ∀ (w i : Nat) (x : LR), l[i]? = some x → P.length - P.idxOf x.head ≤ w → ∃ d, Deep (ofin l) i d ∧ d ≤ w + 1 := by
  intro w
  induction w with
  | zero =>
    intro i x hx hw
    have hm := List.mem_of_getElem? hx
    have := List.idxOf_lt_length_iff.2 ((up.ok x hm).2.2.inP hf hq hP (up.ok x hm).2.1)
    omega
  | succ w ih =>
    intro i x hx hw
    rcases ofold_ok l i l.length with h | ⟨j, x', y, h, hj, hx', hy, hne, hin⟩
    · exact ⟨1, .top h, by omega⟩
    · rw [hx] at hx'
      cases hx'
      obtain ⟨z, hz, hzP, _, ha⟩ := up.body_lt kd (List.mem_of_getElem? hy) hin
      have hz : z = x.head := by omega
      subst hz
      have hlt : P.idxOf x.head < P.idxOf y.head := by
        rcases kd.k.le ha with e | e
        · exact absurd (up.inj hx hy e).symm hne
        · exact e
      obtain ⟨d, h1, h2⟩ := ih j y hy (by omega)
      exact ⟨d + 1, .up h h1, by omega⟩
end
/-- What the walk tells at its end. -/
def LoopsEnd (bs : List Blk) (par : Par) (z : Option (ARes × Hp)) : Prop :=
  ∃ l dep h' lv x, z = some (.ret (.tuple [lv, .rv (I 0)]), h') ∧ Upto bs par bs.length l ∧ (∀ i, i < l.length → Deep (ofin l) i (dep i)) ∧ toRV h' 11 lv = some x ∧ IsRows 4 IsLp x (lpsOf l dep) ∧
    ((lv = .rv .nils ∧ l = []) ∨ ∃ ol vl cells, lv = .sl ol vl 0 l.length ∧ LS h' ol vl l (ofin l) (DS dep l.length) cells)
theorem loops_end {bs : List Blk} {P : List Nat} {par : Par} {hf : formOk bs = true} {hq : FlowOk bs} {hP : IsPost bs P} (kd : Done (grOf hf hq hP) par) (hsh : bs.length ≤ 4096) (kk : Nat) (hk : 1000000000 < kk) {hB h : Hp} {n os oat : Nat} {inV : AV} {A : List Int} {S : List Nat} {lv : AV} {l : List LR} (pl : PL hB h n os oat inV A S lv l) (up : Upto bs par bs.length l) :
    LoopsEnd bs par (flow_Loops_p255 kk lv h) := by
  have hll := up.len
  have hs : ∀ x ∈ l, x.body.Pairwise (· < ·) ∧ x.body.length < 1000000000 := by
    intro x hx
    refine ⟨(up.ok x hx).1.sorted, ?_⟩
    have := sorted_len (n := bs.length) (up.ok x hx).1.sorted fun y hy => by
      obtain ⟨z, rfl, _, h, _⟩ := up.body_lt kd hx hy
      omega
    omega
  have hdep : ∃ dep : Nat → Nat, ∀ i, i < l.length → Deep (ofin l) i (dep i) ∧ dep i < 1000000000 := by
    have hple : P.length ≤ 4096 := by
      have := nodup_le bs.length P (grP hf hq hP).nd (grP hf hq hP).lt
      omega
    have : ∀ i, ∃ d, i < l.length → Deep (ofin l) i d ∧ d < 1000000000 := fun i => by
      by_cases h : i < l.length
      · obtain ⟨d, h1, h2⟩ := deep_ex kd up P.length i _ (List.getElem?_eq_getElem h) (by omega)
        exact ⟨d, fun _ => ⟨h1, by omega⟩⟩
      · exact ⟨0, fun h' => absurd h' h⟩
    exact ⟨fun i => (this i).choose, fun i => (this i).choose_spec⟩
  obtain ⟨dep, hdep⟩ := hdep
  have hbo := pl.bo
  have hls := pl.ls
  cases hls with
  | nil =>
    obtain ⟨kk, rfl⟩ : ∃ q, kk = q + 1 := ⟨kk - 1, by omega⟩
    have e0 : ∀ K : Int → Option (ARes × Hp), lna (.rv .nils) K = K 0 := fun K => rfl
    rw [flow_Loops_p255_eq, e0, flow_Loops_l4084_eq, bsp_not (by rfl), flow_Loops_p511_eq, e0, flow_Loops_l8180_eq, bsp_not (by rfl), flow_Loops_p1023_eq]
    exact ⟨[], dep, h, .rv .nils, .nils, rfl, up, fun i hi => by simp at hi, rfl, .nil, .inl ⟨rfl, rfl⟩⟩
  | @mk ol vl l cells lc =>
    have ls0 : LS h ol vl l (OS l 0 0) (fun _ => 0) cells := ⟨by rw [OS_start]; exact lc, fun x hx => by
      obtain ⟨_, h2, _, h4⟩ := hbo x hx
      exact ⟨fun e => h4 (by rw [e]; rfl), h2⟩, pl.dis⟩
    rw [flow_Loops_p255_eq, sl_len, show ((0 : Int)) = ((0 : Nat) : Int) from rfl]
    refine outer_loop (by omega) hs kk _ hk (LoopsEnd bs par) (fun h cells ls => ?_) l.length 0 kk h cells (by omega) (by omega) ls0
    have e1 : LS h ol vl l (ofin l) (DS dep 0) cells := by
      have k := ls.lc
      refine ⟨⟨k.ob, k.len, k.c0, fun i x hx => ?_, fun i x hx => ?_, k.c3⟩, ls.bo, ls.dis⟩
      · rw [k.c1 i x hx]
        have := (List.getElem?_eq_some_iff.1 hx).1
        unfold OS
        rw [if_pos this]
      · rw [k.c2 i x hx]
        rfl
    rw [flow_Loops_p511_eq, sl_len, show ((0 : Int)) = ((0 : Nat) : Int) from rfl]
    refine depth_loop (by omega) dep hdep kk _ (LoopsEnd bs par) (fun h cells ls => ?_) l.length 0 kk h cells (by omega) (by omega) e1
    obtain ⟨x, hx, hr⟩ := loops_rv 7 (by omega) (fun x hx => (hs x hx).2) dep ls
    rw [flow_Loops_p1023_eq]
    exact ⟨l, dep, h, _, x, rfl, up, fun i hi => (hdep i hi).1, hx, hr, .inr ⟨ol, vl, cells, rfl, ls⟩⟩
theorem flowLoops_bad {cs : List RV} {d : Cd} (hd : IsCd cs d) : (formOk d.blocks = false → F_flow_Loops [.agg cs] = some (.ret (.tuple [.nils, I 130]))) ∧ (formOk d.blocks = true → ¬ FlowOk d.blocks → F_flow_Loops [.agg cs] = some (.ret (.tuple [.nils, I 131]))) := by
  have hd' := hd
  obtain ⟨p, r, v, b, rfl, _, _, _, hb⟩ := hd
  have key : ∀ e : Int, e ≠ 0 → F_ssa_Flow [.agg [p, r, v, b]] = some (.ret (I e)) → F_flow_Loops [.agg [p, r, v, b]] = some (.ret (.tuple [.nils, I e])) := by
    intro e he hF
    unfold F_flow_Loops
    rw [List.map_cons, List.map_nil, flow_Loops_eq, box_agg, List.nil_append, List.length_nil, show List.map AV.rv [p, r, v, b] = [.rv p, .rv r, .rv v, .rv b] from rfl, ldg_at (by rfl) (by rfl), callP_ret (by simp [toRV, depthA]) hF (.inr rfl), asInt_i, bsp_of (by simpa using he)]
    simp [pureR, toRV, depthA]
  exact ⟨fun h => key 130 (by omega) ((ssaFlow_spec hd').1 h), fun h q => key 131 (by omega) ((ssaFlow_spec hd').2.2 h q)⟩
theorem flowLoops_run {cs : List RV} {d : Cd} (hd : IsCd cs d) (hf : formOk d.blocks = true) (hq : FlowOk d.blocks) {P : List Nat} (hP : IsPost d.blocks P) :
    ∃ par, Done (grOf hf hq hP) par ∧ LoopsEnd d.blocks par (fnA Try.prog flow_Loops_G flow_Loops_A flow_Loops_R big Try.f18 ([RV.agg cs].map .rv) []) := by
  have hl : 0 < d.blocks.length ∧ d.blocks.length ≤ 4096 := by
    simp only [formOk, Bool.and_eq_true, decide_eq_true_eq] at hf
    exact hf.1
  have g := grP hf hq hP
  have hple : P.length ≤ d.blocks.length := nodup_le _ P g.nd g.lt
  obtain ⟨y, e1, hy⟩ := ssaPost_spec hd hl (formOk_succs hf) hP
  obtain ⟨par, dm, kd, e2, hdm⟩ := Doms_spec hd hf hq hP hy
  have e0 := (ssaFlow_spec hd).2.1 hf hq
  obtain ⟨p, r, v, b, rfl, _, _, _, hb⟩ := hd
  obtain ⟨h1, to, oi, oo, i, o, eT, tr, wr, ht1, ht2, ht3⟩ := NewTree_spec kd g hl.2 hple (dm := dm) (ps := y) hdm hy [⟨0, 1, [.rv p, .rv r, .rv v, .rv b]⟩]
  have hc1 : h1[0]? = some ⟨0, 1, [.rv p, .rv r, .rv v, .rv b]⟩ := by rw [wr.eq 0 (by simp)]; rfl
  have hz : ∀ n, zrep [AV.rv (.int .i64 0)] n = (List.replicate n (0 : Int)).map ai := fun n => by simp [zrep]
  obtain ⟨hB, ehB⟩ : ∃ hB : Hp, hB = h1 ++ [⟨0, 1, [.ptr to 0 0]⟩] ++ [⟨0, 1, (List.replicate d.blocks.length (0 : Int)).map ai⟩] ++ [⟨0, 1, [.rv .nils, .sl (h1.length + 1) 0 0 d.blocks.length]⟩] := ⟨_, rfl⟩
  have hBl : hB.length = h1.length + 3 := by rw [ehB]; simp
  have old : ∀ q, q < h1.length → hB[q]? = h1[q]? := fun q hq => by rw [ehB, List.append_assoc, List.append_assoc, List.getElem?_append_left hq]
  have hpt : hB[h1.length]? = some ⟨0, 1, [.ptr to 0 0]⟩ := by rw [ehB, List.append_assoc, List.append_assoc, List.getElem?_append_right (Nat.le_refl _)]; simp
  have hat : hB[h1.length + 1]? = some ⟨0, 1, (List.replicate d.blocks.length (0 : Int)).map ai⟩ := by rw [ehB, List.append_assoc, List.append_assoc, List.getElem?_append_right (by omega)]; simp
  have hos : hB[h1.length + 2]? = some ⟨0, 1, [.rv .nils, .sl (h1.length + 1) 0 0 d.blocks.length]⟩ := by rw [ehB, List.append_assoc, List.append_assoc, List.getElem?_append_right (by omega)]; simp
  have hcl := get_lt hc1
  have trl : ∀ q, q = to ∨ q = oi ∨ q = oo → q < h1.length := by
    rintro q (rfl | rfl | rfl)
    · exact get_lt tr.t
    · exact get_lt tr.oi
    · exact get_lt tr.oo
  have trB : TreeAt par P d.blocks.length hB to oi oo i o := tr.mono fun q hq => old q (trl q hq)
  have hcB : hB[0]? = some ⟨0, 1, [.rv p, .rv r, .rv v, .rv b]⟩ := by rw [old 0 hcl]; exact hc1
  have pl : PL hB hB d.blocks.length (h1.length + 2) (h1.length + 1) (.rv .nils) (List.replicate d.blocks.length 0) [] (.rv .nils) [] := by
    refine ⟨fun _ _ _ _ => rfl, ⟨hos, .nil, hat, by simp, fun a ha => ?_, by simp, by simp, by simp, by omega, by simp [own], by simp [own]⟩, by simp [own], .nil, by simp [own], by simp, ⟨by omega, by omega, Nat.le_refl _⟩, .nil⟩
    rw [List.mem_replicate] at ha
    omega
  have hne : ∀ q, q = 0 ∨ q = to ∨ q = oi ∨ q = oo ∨ q = h1.length → q ≠ h1.length + 2 ∧ q ≠ h1.length + 1 := by
    intro q hq
    have : q ≤ h1.length := by
      rcases hq with rfl | h | h | h | rfl
      · omega
      · have := trl q (.inl h); omega
      · have := trl q (.inr (.inl h)); omega
      · have := trl q (.inr (.inr h)); omega
      · exact Nat.le_refl _
    omega
  have up0 : Upto d.blocks par 0 [] := ⟨by simp, by simp, fun hd h => by omega⟩
  have main : LoopsEnd d.blocks par (flow_Loops_l2036 big big hB.length (.ptr 0 0 0) (.ptr h1.length 0 0) (.ptr (h1.length + 2) 0 0) (.rv .nils) (.rv b) d.blocks.length ((0 : Nat) : Int) hB) :=
    heads_loop hb rfl hl.2 (formOk_preds hf) (fun x hx z hz => (grOf hf hq hP).pin x hx z hz) (fun x hx hn => hole_prd hf hq hP hx hn) hcB trB hpt hne big hB.length (LoopsEnd d.blocks par)
      (fun h inV A S lv l pl up => loops_end kd hl.2 big (by rw [big_val]; omega) pl up) d.blocks.length 0 big hB _ _ _ _ _ (by omega) (by rw [big_val]; omega) pl up0
  refine ⟨par, kd, ?_⟩
  have e5 : ∀ (K : AV → Option (ARes × Hp)) (w : AV), vcells w = some [w] → bld [.rv .nils, .rv .nils] [(some (1, 1), w)] K = K (.agg [.rv .nils, w]) := by
    intro K w hw
    simp [bld, fillA, hw, setAt]
  have e6 : ∀ (K : AV → Hp → Option (ARes × Hp)) (h : Hp) (c : List AV), nwc 1 (some c) h K = K (.ptr h.length 0 0) (h ++ [⟨0, 1, c⟩]) := fun K h c => rfl
  have e7 : ∀ (c : List AV), vcells (.agg c) = some c := fun c => rfl
  have s1 : ∀ (K : Hp → Option (ARes × Hp)), stv 1 (h1 ++ [⟨0, 1, [.rv .nilp]⟩]) (.ptr h1.length 0 0) (.ptr to 0 0) K = K (h1 ++ [⟨0, 1, [.ptr to 0 0]⟩]) := by
    intro K
    rw [stv_at (o := h1.length) (get_new _) (by simp) (by rfl) (by rfl), List.set_append_right _ _ (Nat.le_refl _), Nat.sub_self]
    rfl
  have run : fnA Try.prog flow_Loops_G flow_Loops_A flow_Loops_R big Try.f18 ([RV.agg [p, r, v, b]].map .rv) [] = (flow_Loops_l2036 big big hB.length (.ptr 0 0 0) (.ptr h1.length 0 0) (.ptr (h1.length + 2) 0 0) (.rv .nils) (.rv b) d.blocks.length ((0 : Nat) : Int) hB) := by
    rw [List.map_cons, List.map_nil, flow_Loops_eq, box_agg, List.nil_append, List.length_nil, show List.map AV.rv [p, r, v, b] = [.rv p, .rv r, .rv v, .rv b] from rfl, ldg_at (by rfl) (by rfl), callP_ret (by simp [toRV, depthA]) e0 (.inr rfl), asInt_i, bsp_not (by rfl),
      ldg_at (by rfl) (by rfl), callP_ret (by simp [toRV, depthA]) e1 (.inl rfl), ldg_at (by rfl) (by rfl), callP_ret (by simp [toRV, depthA]) e2 (.inl rfl), callG_ret eT, e6, s1, pad_ptr, ldv_at (get_old hc1 _) (x := .rv b) rfl, hb.len, mks_one (by omega) (by omega), e5 _ _ rfl, e7, e6, pad_ptr, hz]
    have e8 : (h1 ++ [(⟨0, 1, [.ptr to 0 0]⟩ : Ob)]).length = h1.length + 1 := by simp
    have e9 : (h1 ++ [(⟨0, 1, [.ptr to 0 0]⟩ : Ob)] ++ [(⟨0, 1, (List.replicate d.blocks.length (0 : Int)).map ai⟩ : Ob)]).length = h1.length + 2 := by simp
    rw [e8, e9, ← ehB, ldv_at hcB (x := .rv b) rfl, hb.len]
    rfl
  rw [run]
  exact main
theorem flowLoops_spec {cs : List RV} {d : Cd} (hd : IsCd cs d) (hf : formOk d.blocks = true) (hq : FlowOk d.blocks) {P : List Nat} (hP : IsPost d.blocks P) :
    ∃ par l dep x, Done (grOf hf hq hP) par ∧ Upto d.blocks par d.blocks.length l ∧ (∀ i, i < l.length → Deep (ofin l) i (dep i)) ∧ F_flow_Loops [.agg cs] = some (.ret (.tuple [x, I 0])) ∧ IsRows 4 IsLp x (lpsOf l dep) := by
  obtain ⟨par, kd, l, dep, h', lv, x, em, up, hdp, hx, hr, _⟩ := flowLoops_run hd hf hq hP
  refine ⟨par, l, dep, x, kd, up, hdp, ?_, hr⟩
  unfold F_flow_Loops
  rw [em]
  simp only [pureR, depthA, toRV, List.mapM_cons, List.mapM_nil, hx]
  rfl
end Go.Proofs.Ytknphnmhjmejaaa
/- The places and the unfolding equations of these functions (printed by gen.py of this repo): no conditions. -/
namespace Go.Proofs.Ytknphnmhjmejaaa
set_option linter.unusedVariables false
set_option maxRecDepth 100000

/-! gantry/gantryref0.In -/
abbrev id_r0_In : FuncId := 28
noncomputable def r0_In_G : FuncId → Option Callee := fun f => match f with
  | _ => none
def r0_In_A : Ann := [(7, []), (52, [0, 1, 5])]
def r0_In_R : List Nat := []
noncomputable def r0_In_c (k pos : Nat) : St → Cont (ARes × Hp) → Option (ARes × Hp) := acode Try.prog r0_In_G r0_In_A r0_In_R k (cdAt (pathOf pos) (bodyOf Try.f28)) pos
def r0_In_T52 (x0 : AV) (x1 : Int) (x5 : Int) : List AV := x0 :: (.rv (.int .i64 x1)) :: an 3 ((.rv (.int .i64 x5)) :: an 12 ([]))
def r0_In_T7  : List AV := an 18 ([])
noncomputable def r0_In_K0 (k : Nat) : Cont (ARes × Hp) := seqK (r0_In_c k 7) true (clrA r0_In_A 7) (finA Try.prog Try.f28)
noncomputable def r0_In_K1 (k : Nat) : Cont (ARes × Hp) := blkK 0 (r0_In_K0 k)
noncomputable def r0_In_l52 (k : Nat) (N52 M52 : Nat) (x0 : AV) (x1 : Int) (x5 : Int) (h : Hp) : Option (ARes × Hp) := aloop (r0_In_c k 52) (clrA r0_In_A 52) (trimOf r0_In_R 52) M52 N52 ⟨r0_In_T52 x0 x1 x5, h⟩ (r0_In_K1 k)
noncomputable def r0_In_p7 (k : Nat)  (h : Hp) : Option (ARes × Hp) := pnt (r0_In_c k 7) ⟨r0_In_T7 , h⟩ (finA Try.prog Try.f28)
theorem r0_In_l52_eq (k : Nat) (N52 M52 : Nat) (x0 : AV) (x1 : Int) (x5 : Int) (h : Hp) : r0_In_l52 k (N52 + 1) M52 x0 x1 x5 h = lna x0 fun n1 => bsp ((decide (x5 < n1))) (ixa 1 x0 x5 fun p2 => ldi .i64 h p2 fun n3 => bsp ((n3 == x1)) (some (.ret (.rv (.bool true)), h)) (r0_In_l52 k N52 M52 x0 (x1) ((wri .i64 (x5 + 1))) (h))) (r0_In_p7 k  (h)) := nrfl (by kernel_rfl)
theorem r0_In_p7_eq (k : Nat)  (h : Hp) : r0_In_p7 k  h = some (.ret (.rv (.bool false)), h) := nrfl (by kernel_rfl)
theorem r0_In_eq (k : Nat) (x0 : AV) (x1 : Int) (h : Hp) : fnA Try.prog r0_In_G r0_In_A r0_In_R k Try.f28 [x0, (.rv (.int .i64 x1))] h = r0_In_l52 k k h.length x0 (x1) (0) (h) := nrfl (by kernel_rfl)
theorem r0_In_good : Good Try.prog r0_In_G := fun f c hc => by cases hc
noncomputable def F_r0_In : List RV → Option Res := fun rs => pureR (fnA Try.prog r0_In_G r0_In_A r0_In_R big Try.f28 (rs.map .rv) [])
theorem good_r0_In : GoodC Try.prog 28 (.pure F_r0_In) := goodP mixed r0_In_good (by kernel_rfl : Try.prog.funcs[28]? = some Try.f28) rfl rfl (fun rs r h => ⟨big, h⟩)

/-! gantry/gantryref13.Dominates -/
abbrev id_r13_Dominates : FuncId := 29
noncomputable def r13_Dominates_G : FuncId → Option Callee := fun f => match f with
  | _ => none
def r13_Dominates_A : Ann := [(7, []), (24, [0, 1, 2])]
def r13_Dominates_R : List Nat := []
noncomputable def r13_Dominates_c (k pos : Nat) : St → Cont (ARes × Hp) → Option (ARes × Hp) := acode Try.prog r13_Dominates_G r13_Dominates_A r13_Dominates_R k (cdAt (pathOf pos) (bodyOf Try.f29)) pos
def r13_Dominates_T24 (x0 : AV) (x1 : Int) (x2 : Int) : List AV := x0 :: (.rv (.int .i64 x1)) :: (.rv (.int .i64 x2)) :: an 13 ([])
def r13_Dominates_T7  : List AV := an 16 ([])
noncomputable def r13_Dominates_K0 (k : Nat) : Cont (ARes × Hp) := seqK (r13_Dominates_c k 7) true (clrA r13_Dominates_A 7) (finA Try.prog Try.f29)
noncomputable def r13_Dominates_K1 (k : Nat) : Cont (ARes × Hp) := blkK 0 (r13_Dominates_K0 k)
noncomputable def r13_Dominates_l24 (k : Nat) (N24 M24 : Nat) (x0 : AV) (x1 : Int) (x2 : Int) (h : Hp) : Option (ARes × Hp) := aloop (r13_Dominates_c k 24) (clrA r13_Dominates_A 24) (trimOf r13_Dominates_R 24) M24 N24 ⟨r13_Dominates_T24 x0 x1 x2, h⟩ (r13_Dominates_K1 k)
noncomputable def r13_Dominates_p7 (k : Nat)  (h : Hp) : Option (ARes × Hp) := pnt (r13_Dominates_c k 7) ⟨r13_Dominates_T7 , h⟩ (finA Try.prog Try.f29)
theorem r13_Dominates_l24_eq (k : Nat) (N24 M24 : Nat) (x0 : AV) (x1 : Int) (x2 : Int) (h : Hp) : r13_Dominates_l24 k (N24 + 1) M24 x0 x1 x2 h = bsp ((decide (x2 ≥ 0))) (bsp ((x2 == x1)) (some (.ret (.rv (.bool true)), h)) (ixa 1 x0 x2 fun p1 => ldi .i64 h p1 fun n2 => r13_Dominates_l24 k N24 M24 x0 (x1) (n2) (h))) (r13_Dominates_p7 k  (h)) := nrfl (by kernel_rfl)
theorem r13_Dominates_p7_eq (k : Nat)  (h : Hp) : r13_Dominates_p7 k  h = some (.ret (.rv (.bool false)), h) := nrfl (by kernel_rfl)
theorem r13_Dominates_eq (k : Nat) (x0 : AV) (x1 : Int) (x2 : Int) (h : Hp) : fnA Try.prog r13_Dominates_G r13_Dominates_A r13_Dominates_R k Try.f29 [x0, (.rv (.int .i64 x1)), (.rv (.int .i64 x2))] h = r13_Dominates_l24 k k h.length x0 (x1) (x2) (h) := nrfl (by kernel_rfl)
theorem r13_Dominates_good : Good Try.prog r13_Dominates_G := fun f c hc => by cases hc
noncomputable def F_r13_Dominates : List RV → Option Res := fun rs => pureR (fnA Try.prog r13_Dominates_G r13_Dominates_A r13_Dominates_R big Try.f29 (rs.map .rv) [])
theorem good_r13_Dominates : GoodC Try.prog 29 (.pure F_r13_Dominates) := goodP mixed r13_Dominates_good (by kernel_rfl : Try.prog.funcs[29]? = some Try.f29) rfl rfl (fun rs r h => ⟨big, h⟩)
end Go.Proofs.Ytknphnmhjmejaaa
