/-  The walk of immediate dominators: one turn over the blocks. No conditions. -/
import Derived.Test.YtknphnmhjmejaaaDc
namespace Go.Proofs.Ytknphnmhjmejaaa
set_option linter.unusedVariables false
theorem sum_le {f g : Nat → Nat} : ∀ l : List Nat, (∀ y ∈ l, f y ≤ g y) → (l.map f).sum ≤ (l.map g).sum
  | [], _ => by simp
  | x :: l, h => by
    have := sum_le l fun y hy => h y (by simp [hy])
    have := h x (by simp)
    simp only [List.map_cons, List.sum_cons]
    omega
theorem sum_lt {f g : Nat → Nat} {x : Nat} (hx : f x < g x) : ∀ l : List Nat, (∀ y ∈ l, f y ≤ g y) → x ∈ l → (l.map f).sum < (l.map g).sum
  | [], _, h => by cases h
  | y :: l, h, hm => by
    have h1 := sum_le l fun y hy => h y (by simp [hy])
    have h2 := h y (by simp)
    simp only [List.map_cons, List.sum_cons]
    rcases List.mem_cons.1 hm with rfl | hm
    · omega
    · have := sum_lt hx l (fun y hy => h y (by simp [hy])) hm
      omega
def phv (G : Gr) (par : Par) (x : Nat) : Nat := match par x with | some y => G.num y + 1 | none => 0
def phi (G : Gr) (P : List Nat) (par : Par) : Nat := (P.map (phv G par)).sum
theorem phi_upd {G : Gr} {P : List Nat} {par : Par} {y c : Nat} (hy : y ∈ P) (h : ∀ q, par y = some q → G.num q < G.num c) : phi G P par < phi G P (upd par y c) := by
  refine sum_lt (x := y) ?_ P (fun z hz => ?_) hy
  · unfold phv
    rw [upd_same]
    cases hq : par y with
    | none => simp
    | some q => have := h q hq; simp; omega
  · by_cases e : z = y
    · subst e
      unfold phv
      rw [upd_same]
      cases hq : par z with
      | none => simp
      | some q => have := h q hq; simp; omega
    · unfold phv
      rw [upd_ne e]
      exact Nat.le_refl _
section
variable {G : Gr} {P : List Nat} {n : Nat} {par : Par} {h : Hp}
theorem Acc.known {l : List Nat} {d : Int} (a : Acc G par l d) (hk : ∃ p ∈ l, par p ≠ none) : ∃ c : Nat, d = c ∧ Nd G par c ∧ ∀ e, Anc par c e ↔ ∀ p ∈ l, par p ≠ none → Anc par p e := by
  rcases a with ⟨_, h2⟩ | h
  · obtain ⟨p, hp, hs⟩ := hk
    exact absurd (h2 p hp) hs
  · exact h
/-- What lies where in a turn. -/
structure DW (P : List Nat) (n : Nat) (post : RV) (cs : List AV) (fo bo : Nat) (fl : Bool) (par : Par) (h : Hp) : Prop where
  d : DH P n par h
  o0 : h[0]? = some ⟨0, 1, cs⟩
  o5 : h[5]? = some ⟨0, 1, [.func id_ssa_Doms_c1 [] [.ptr 2 0 0, .ptr 4 0 0]]⟩
  of : h[fo]? = some ⟨0, 1, [ab fl]⟩
  f6 : 6 ≤ fo
  ob : h[bo]? = some ⟨0, 1, [.rv post]⟩
  b6 : 6 ≤ bo
  ne : fo ≠ bo
theorem DW.put {post : RV} {cs : List AV} {fo bo : Nat} {fl : Bool} (w : DW P n post cs fo bo fl par h) {b c : Nat} (hb : b < n) :
    DW P n post cs fo bo true (upd par b c) ((h.set 3 ⟨0, 1, ((dl par n).map ai).set b (ai c)⟩).set fo ⟨0, 1, [ab true]⟩) := by
  have hf := w.f6
  have hbo := w.b6
  have e3 : ((dl par n).map ai).set b (ai c) = (dl (upd par b c) n).map ai := by
    rw [← dl_set hb, List.map_set]
  rw [e3]
  have o3 : (h.set 3 ⟨0, 1, (dl (upd par b c) n).map ai⟩)[fo]? = some ⟨0, 1, [ab fl]⟩ := get_set_ne (by omega) w.of
  exact ⟨⟨get_set_ne (by omega) (get_set_ne (by omega) w.d.o1), get_set_ne (by omega) (get_set_ne (by omega) w.d.o2), get_set_ne (by omega) (get_set_eq w.d.o3), get_set_ne (by omega) (get_set_ne (by omega) w.d.o4)⟩,
    get_set_ne (by omega) (get_set_ne (by omega) w.o0), get_set_ne (by omega) (get_set_ne (by omega) w.o5), get_set_eq o3, hf, get_set_ne w.ne (get_set_ne (by omega) w.ob), hbo, w.ne⟩
structure Turn (G : Gr) (P : List Nat) (par0 par : Par) (fl : Bool) (v : Nat) : Prop where
  K : Kept G par v
  hN : ∀ x, par x ≠ none → G.N x
  same : fl = false → par = par0 ∧ ∀ y, G.N y → y ≠ 0 → v ≤ G.num y → ∃ c, par y = some c ∧ IsMeet G par y c
  more : fl = true → phi G P par0 < phi G P par
theorem Turn.keep {par0 : Par} {fl : Bool} {v : Nat} (t : Turn G P par0 par fl v) {y c : Nat} (y0 : y ≠ 0) (hy : G.N y) (hv : v = G.num y + 1) (m : IsMeet G par y c) (hc : par y = some c) : Turn G P par0 par fl (G.num y) := by
  have hu : upd par y c = par := by
    funext x
    unfold upd
    split
    · rename_i e; rw [e, hc]
    · rfl
  have hk := t.K.next hv (t.K.put y0 hy hv m)
  rw [hu] at hk
  refine ⟨hk, t.hN, fun hf => ⟨(t.same hf).1, fun z hz z0 hzv => ?_⟩, t.more⟩
  by_cases e : z = y
  · subst e
    exact ⟨c, hc, m⟩
  · have : G.num z ≠ G.num y := fun h => e (G.inj z y hz hy h)
    exact (t.same hf).2 z hz z0 (by omega)
theorem Turn.put {par0 : Par} {fl : Bool} {v : Nat} (hmem : ∀ x, G.N x ↔ x ∈ P) (t : Turn G P par0 par fl v) {y c : Nat} (y0 : y ≠ 0) (hy : G.N y) (hv : v = G.num y + 1) (m : IsMeet G par y c) (hc : par y ≠ some c) : Turn G P par0 (upd par y c) true (G.num y) := by
  have u := t.K.put y0 hy hv m
  have hphi : phi G P par < phi G P (upd par y c) := phi_upd ((hmem y).1 hy) fun q hq => (t.K.rises u hq).resolve_left fun e => hc (e ▸ hq)
  refine ⟨t.K.next hv u, fun x hx => ?_, fun h => (by cases h), fun _ => ?_⟩
  · by_cases e : x = y
    · rw [e]; exact hy
    · rw [upd_ne e] at hx; exact t.hN x hx
  · cases fl with
    | true => have := t.more rfl; omega
    | false => rw [← (t.same rfl).1]; exact hphi
/-- One turn, from the last block of the order to its first. -/
theorem turn_loop {bs : List Blk} (g : GrP G P bs.length) (hpr : G.pr = prd bs) (hl : bs.length ≤ 4096) (hpreds : ∀ (x : Nat) (b : Blk), bs[x]? = some b → ∀ z ∈ b.preds, ∃ q : Nat, z = q ∧ q < bs.length) (h0m : G.num 0 + 1 = P.length)
    {post p r v b : RV} (hpost : IsInts post (P.map Int.ofNat)) (hb : IsRows 6 IsBlk b bs) {par0 : Par} {fo bo : Nat} (kk N1 M1 : Nat) (hkk : kk = big) (y1 y54 : AV) (Q : Option (ARes × Hp) → Prop)
    (next : ∀ par fl h, Turn G P par0 par fl 0 → DW P bs.length post [.rv p, .rv r, .rv v, .rv b] fo bo fl par h → Q (ssa_Doms_b261414 kk N1 M1 0 (.ptr bo 0 0) y1 (.ptr 0 0 0) (.ptr 4 0 0) (.ptr 5 0 0) (.ptr fo 0 0) y54 h)) :
    ∀ (N : Nat) (par : Par) (fl : Bool) (h : Hp), N ≤ P.length → Turn G P par0 par fl (min N (G.num 0)) → DW P bs.length post [.rv p, .rv r, .rv v, .rv b] fo bo fl par h →
      Q (ssa_Doms_b261414 kk N1 M1 N (.ptr bo 0 0) y1 (.ptr 0 0 0) (.ptr 4 0 0) (.ptr 5 0 0) (.ptr fo 0 0) y54 h) := by
  intro N
  induction N with
  | zero =>
    intro par fl h _ t w
    rw [Nat.zero_min] at t
    exact next par fl h t w
  | succ N ih =>
    intro par fl h hN t w
    have hNl : N < P.length := by omega
    have hyP : P[N] ∈ P := List.getElem_mem hNl
    have hnum : G.num P[N] = N := by rw [g.num]; exact List.Nodup.idxOf_getElem g.nd N hNl
    have hyl := g.lt _ hyP
    have hat : N < (P.map Int.ofNat).length := by simpa using hNl
    have hval : (P.map Int.ofNat)[N] = ((P[N] : Nat) : Int) := by simp
    rw [ssa_Doms_b261414_eq, ldv_at w.ob (by rfl), hpost.at hat, hval]
    by_cases h0 : P[N] = 0
    · rw [bsp_of (by simpa using h0)]
      have hN0 : N = G.num 0 := by rw [← hnum, h0]
      refine ih par fl h (by omega) ?_ w
      rw [show min (N + 1) (G.num 0) = min N (G.num 0) by omega] at t
      exact t
    · have hlt0 := G.top P[N] ((g.mem _).2 hyP) h0
      obtain ⟨a, q, s, tt, rest', k1, k2, k3, k4, hbx⟩ := blk_at (R := ARes × Hp) hb hyl
      rw [bsp_not (by simpa using h0), pad_ptr, ldv_at w.o0 (by rfl), hbx, pad_rop3, ldv_rop, k2.len]
      have tK := t.K
      refine preds_loop g hl tK.k t.hN w.d w.o5 kk N1 M1 N _ y1 _ _ _ _ y54 (.ptr fo 0 0) P[N] _ k2 (hpreds _ _ (List.getElem?_eq_getElem hyl)) Q (fun e ha => ?_) bs[P[N]].preds.length 0 kk (-1) (by omega) ?_ (.inl ⟨rfl, by simp⟩)
      · have hz : G.num P[N] = N := hnum
        have hv : min (N + 1) (G.num 0) = G.num P[N] + 1 := by omega
        rw [hv] at t
        have htp := G.tp P[N] ((g.mem _).2 hyP) h0
        have hbp : bs[P[N]].preds.map Int.toNat = G.pr P[N] := by rw [hpr, prd_at hyl]
        rw [hbp] at ha
        obtain ⟨c, rfl, hc, hm⟩ := ha.known ⟨_, htp.1, t.K.was _ (G.pin _ ((g.mem _).2 hyP) _ htp.1) (by omega)⟩
        have hmin : min N (G.num 0) = G.num P[N] := by omega
        rw [ssa_Doms_p8365271_eq, w.d.dom hyl]
        by_cases hcp : par P[N] = some c
        · rw [dlv_some hcp, bsp_not (by simp)]
          exact ih par fl h (by omega) (by rw [hmin]; exact t.keep h0 ((g.mem _).2 hyP) rfl hm hcp) w
        · have hne : ((c : Int) != dlv par P[N]) = true := by
            rw [bne_iff_ne]
            intro e
            unfold dlv at e
            split at e
            · rename_i z hz
              exact hcp (by rw [hz]; congr 1; omega)
            · omega
          rw [bsp_of hne, ldv_at w.d.o4 (by rfl), sl_at hyl, stv_at w.d.o3 (by simp [dl_len]; exact hyl) (by rfl) (by rfl)]
          have w2 := w.put (b := P[N]) (c := c) hyl
          have o3 : (h.set 3 ⟨0, 1, ((dl par bs.length).map ai).set P[N] (ai c)⟩)[fo]? = some ⟨0, 1, [ab fl]⟩ := get_set_ne (by have := w.f6; omega) w.of
          rw [stv_at o3 (by simp) (by rfl) (by rfl)]
          exact ih _ true _ (by omega) (by rw [hmin]; exact t.put g.mem h0 ((g.mem _).2 hyP) rfl hm hcp) w2
      · have := k2.short
        rw [hkk, big_val]
        omega
end
end Go.Proofs.Ytknphnmhjmejaaa
