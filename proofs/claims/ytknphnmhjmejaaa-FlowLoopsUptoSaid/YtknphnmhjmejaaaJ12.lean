/- Joined texts: Db, Dc, Dd, De, Df, Dg, Dh, Eb, D2, Di. No conditions but those of each. -/
import Derived.Test.YtknphnmhjmejaaaJ11
import Derived.Test.YtknphnmhjmejaaaJ9
/-  The walk of immediate dominators: the graph, and what leads to a block. No conditions. -/
namespace Go.Proofs.Ytknphnmhjmejaaa
set_option linter.unusedVariables false
/-- What leads to a block. -/
def prd (bs : List Blk) (x : Nat) : List Nat := match bs[x]? with | some b => b.preds.map Int.toNat | none => []
theorem prd_at {bs : List Blk} {x : Nat} (hx : x < bs.length) : prd bs x = bs[x].preds.map Int.toNat := by
  simp [prd, hx]
theorem prd_mem {bs : List Blk} (hf : formOk bs = true) {x y : Nat} (hy : y < bs.length) : x ∈ prd bs y ↔ (x : Int) ∈ bs[y].preds := by
  rw [prd_at hy, List.mem_map]
  constructor
  · rintro ⟨n, hn, e⟩
    obtain ⟨m, rfl, _⟩ := formOk_preds hf y _ (List.getElem?_eq_getElem hy) n hn
    have : m = x := by simpa using e
    rw [← this]
    exact hn
  · exact fun h => ⟨_, h, by simp⟩
theorem sucs_mem {bs : List Blk} (hf : formOk bs = true) {x y : Nat} (hx : x < bs.length) : y ∈ sucs bs x ↔ (y : Int) ∈ bs[x].succs := by
  rw [sucs_at hx, List.mem_map]
  constructor
  · rintro ⟨n, hn, e⟩
    obtain ⟨m, rfl, _⟩ := formOk_succs hf x _ (List.getElem?_eq_getElem hx) n hn
    have : m = y := by simpa using e
    rw [← this]
    exact hn
  · exact fun h => ⟨_, h, by simp⟩
theorem prd_sucs {bs : List Blk} (hf : formOk bs = true) (hq : FlowOk bs) {x y : Nat} (hx : x < bs.length) (hy : y < bs.length) : y ∈ sucs bs x ↔ x ∈ prd bs y := by
  have gx := List.getElem?_eq_getElem hx
  have gy := List.getElem?_eq_getElem hy
  have hole : ∀ {z : Nat} (hz : z < bs.length), bs[z].kind = 0 → bs[z].preds = [] ∧ bs[z].succs = [] := fun hz h => blkOk_hole (formOk_mem hf (List.getElem_mem hz)) h
  rw [sucs_mem hf hx, prd_mem hf hy]
  constructor
  · intro h
    have hk : bs[x].kind ≠ 0 := fun e => by rw [(hole hx e).2] at h; cases h
    have := (hq.join x _ gx hk).2.1 _ h bs[y] (by simp)
    have h2 : 0 < bs[x].succs.count (y : Int) := List.count_pos_iff.2 h
    exact List.count_pos_iff.1 (by omega)
  · intro h
    have hk : bs[y].kind ≠ 0 := fun e => by rw [(hole hy e).1] at h; cases h
    have := (hq.join y _ gy hk).2.2 _ h bs[x] (by simp)
    exact List.count_pos_iff.1 (by omega)
/-- The graph of what is reached. -/
theorem IsPost.behind {bs : List Blk} {P : List Nat} (hP : IsPost bs P) {x : Nat} (hx : x ∈ P) (h0 : x ≠ 0) : ∃ t, t ∈ P ∧ x ∈ sucs bs t ∧ P.idxOf x < P.idxOf t := by
  obtain ⟨S, h1⟩ := hP
  obtain ⟨N, Q, k⟩ := h1.found
  have e : Q = P := by rw [k.p]; rfl
  subst e
  have hnd : Q.Nodup := k.qd
  have hlx : Q.idxOf x < Q.length := List.idxOf_lt_length_iff.2 hx
  have hsplit : Q = Q.take (Q.idxOf x) ++ x :: Q.drop (Q.idxOf x + 1) := by
    conv => lhs; rw [← List.take_append_drop (Q.idxOf x) Q, List.drop_eq_getElem_cons hlx, List.getElem_idxOf hlx]
  rcases k.from_ _ _ x hsplit with h | ⟨t, ht, hs⟩
  · exact absurd (by simpa using h) h0
  · refine ⟨t, List.mem_of_mem_drop ht, hs, ?_⟩
    obtain ⟨j, hj, hj2⟩ := List.getElem_of_mem ht
    rw [List.getElem_drop] at hj2
    have hjl : Q.idxOf x + 1 + j < Q.length := by rw [List.length_drop] at hj; omega
    have := List.Nodup.idxOf_getElem hnd _ hjl
    rw [hj2] at this
    omega
open Classical in
noncomputable def grT (bs : List Blk) (P : List Nat) (x : Nat) : Nat := if h : ∃ t, t ∈ P ∧ x ∈ sucs bs t ∧ P.idxOf x < P.idxOf t then h.choose else 0
noncomputable def grOf {bs : List Blk} {P : List Nat} (hf : formOk bs = true) (hq : FlowOk bs) (hP : IsPost bs P) : Gr where
  N x := x ∈ P
  num x := P.idxOf x
  pr := prd bs
  t := grT bs P
  n0 := (hP.mem 0).2 (.refl 0)
  inj a b ha hb h := by
    have h1 := List.getElem_idxOf (List.idxOf_lt_length_iff.2 ha)
    have h2 := List.getElem_idxOf (List.idxOf_lt_length_iff.2 hb)
    rw [← h1, ← h2]
    simp only [h]
  top b hb h0 := by
    obtain ⟨P0, e⟩ := hP.last
    have hl : 0 < bs.length := by
      simp only [formOk, Bool.and_eq_true, decide_eq_true_eq] at hf
      exact hf.1.1
    have hnd := (hP.facts (formOk_succs hf) hl).1
    have h1 : P.idxOf 0 = P0.length := by
      have h2 : P0.length < P.length := by rw [e]; simp
      have h3 := List.Nodup.idxOf_getElem hnd _ h2
      have h4 : P[P0.length] = 0 := by simp [e]
      rw [h4] at h3
      exact h3
    have h2 : P.idxOf b < P.length := List.idxOf_lt_length_iff.2 hb
    have h3 : P.length = P0.length + 1 := by rw [e]; simp
    have h4 : P.idxOf b ≠ P.idxOf 0 := fun h => h0 (by
      have k1 := List.getElem_idxOf h2
      have k2 := List.getElem_idxOf (List.idxOf_lt_length_iff.2 ((hP.mem 0).2 (.refl 0)))
      rw [← k1, ← k2]
      simp only [h])
    omega
  pin b hb p hp := by
    have hl : 0 < bs.length := by
      simp only [formOk, Bool.and_eq_true, decide_eq_true_eq] at hf
      exact hf.1.1
    have hbl := (hP.facts (formOk_succs hf) hl).2.1 b hb
    have hp2 := (prd_mem hf hbl).1 hp
    obtain ⟨m, c, e, hc, hk⟩ := (blkOk_nums (formOk_mem hf (List.getElem_mem hbl))).1 _ hp2
    have : m = p := by omega
    subst this
    exact (post_kind hf hq hP hc).2 hk
  tp b hb h0 := by
    have hl : 0 < bs.length := by
      simp only [formOk, Bool.and_eq_true, decide_eq_true_eq] at hf
      exact hf.1.1
    have hlt := (hP.facts (formOk_succs hf) hl).2.1
    have h := hP.behind hb h0
    have h2 := h.choose_spec
    have e : grT bs P b = h.choose := by unfold grT; rw [dif_pos h]
    rw [e]
    exact ⟨(prd_sucs hf hq (hlt _ h2.1) (hlt b hb)).1 h2.2.1, h2.2.2⟩
theorem grP {bs : List Blk} {P : List Nat} (hf : formOk bs = true) (hq : FlowOk bs) (hP : IsPost bs P) : GrP (grOf hf hq hP) P bs.length := by
  have hl : 0 < bs.length := by
    simp only [formOk, Bool.and_eq_true, decide_eq_true_eq] at hf
    exact hf.1.1
  obtain ⟨h1, h2, _⟩ := hP.facts (formOk_succs hf) hl
  exact ⟨fun x => Iff.rfl, fun x => rfl, h2, h1⟩
end Go.Proofs.Ytknphnmhjmejaaa
/-  The walk of immediate dominators: one block's, out of what leads to it. No conditions. -/
namespace Go.Proofs.Ytknphnmhjmejaaa
set_option linter.unusedVariables false
/-- What is known when some of what leads to a block has been looked at. -/
def Acc (G : Gr) (par : Par) (l : List Nat) (d : Int) : Prop :=
  (d = -1 ∧ ∀ p ∈ l, par p = none) ∨ ∃ c : Nat, d = c ∧ Nd G par c ∧ ∀ e, Anc par c e ↔ ∀ p ∈ l, par p ≠ none → Anc par p e
theorem dlv_neg {par : Par} {x : Nat} : dlv par x < 0 ↔ par x = none := by
  unfold dlv
  split
  · rename_i y h; rw [h]; simp
  · rename_i h; rw [h]; simp
section
variable {G : Gr} {P : List Nat} {n : Nat} {par : Par} {h : Hp}
theorem Acc.skip {l : List Nat} {d : Int} (a : Acc G par l d) {p : Nat} (hp : par p = none) : Acc G par (l ++ [p]) d := by
  rcases a with ⟨h1, h2⟩ | ⟨c, h1, h2, h3⟩
  · refine .inl ⟨h1, fun q hq => ?_⟩
    rcases List.mem_append.1 hq with hq | hq
    · exact h2 q hq
    · rw [List.mem_singleton.1 hq]; exact hp
  · refine .inr ⟨c, h1, h2, fun e => (h3 e).trans ⟨fun h4 q hq hs => ?_, fun h4 q hq hs => h4 q (List.mem_append_left _ hq) hs⟩⟩
    rcases List.mem_append.1 hq with hq | hq
    · exact h4 q hq hs
    · rw [List.mem_singleton.1 hq] at hs; exact absurd hp hs
theorem Acc.add {l : List Nat} {d : Int} (a : Acc G par l d) {p : Nat} (hp : Nd G par p) : (d < 0 → Acc G par (l ++ [p]) p) ∧ (¬ d < 0 → ∃ c : Nat, d = c ∧ Nd G par c ∧ ∀ c', IsM G par c p c' → Acc G par (l ++ [p]) c') := by
  rcases a with ⟨h1, h2⟩ | ⟨c, h1, h2, h3⟩
  · refine ⟨fun _ => .inr ⟨p, rfl, hp, fun e => ⟨fun h4 q hq hs => ?_, fun h4 => h4 p (by simp) hp.2⟩⟩, fun h => absurd (show d < 0 by omega) h⟩
    rcases List.mem_append.1 hq with hq | hq
    · exact absurd (h2 q hq) hs
    · rw [List.mem_singleton.1 hq]; exact h4
  · refine ⟨fun h => by omega, fun _ => ⟨c, h1, h2, fun c' hm => .inr ⟨c', rfl, hm.1, fun e => (hm.2 e).trans ⟨fun ⟨h4, h5⟩ q hq hs => ?_, fun h4 => ⟨(h3 e).2 fun q hq hs => h4 q (List.mem_append_left _ hq) hs, h4 p (by simp) hp.2⟩⟩⟩⟩⟩
    rcases List.mem_append.1 hq with hq | hq
    · exact (h3 e).1 h4 q hq hs
    · rw [List.mem_singleton.1 hq]; exact h5
theorem preds_loop (g : GrP G P n) (hn : n ≤ 4096) (k : Inv G par) (hN : ∀ x, par x ≠ none → G.N x) (d : DH P n par h) (h5 : h[5]? = some ⟨0, 1, [.func id_ssa_Doms_c1 [] [.ptr 2 0 0, .ptr 4 0 0]]⟩) (kk N1 M1 N2 : Nat) (P2 y1 y2 y6 y10 y11 y54 x11 : AV) (b M3 : Nat)
    {s : RV} {ps : List Int} (hs : IsInts s ps) (hps : ∀ x ∈ ps, ∃ q : Nat, x = q ∧ q < n) (Q : Option (ARes × Hp) → Prop)
    (next : ∀ e, Acc G par (ps.map Int.toNat) e → Q (ssa_Doms_p8365271 kk N1 M1 N2 P2 y1 y2 y6 y10 y11 y54 (.ptr 4 0 0) x11 b e h)) :
    ∀ (m j N3 : Nat) (e : Int), j + m = ps.length → m < N3 → Acc G par ((ps.take j).map Int.toNat) e →
      Q (ssa_Doms_l66922164 kk N1 M1 N2 P2 y1 y2 y6 y10 y11 y54 N3 M3 (.ptr 4 0 0) (.ptr 5 0 0) x11 b e (.rv s) ps.length j h) := by
  have hsh := hs.short
  intro m
  induction m with
  | zero =>
    intro j N3 e hj hN3 ha
    obtain ⟨N3, rfl⟩ : ∃ q, N3 = q + 1 := ⟨N3 - 1, by omega⟩
    rw [ssa_Doms_l66922164_eq, bsp_not (decide_eq_false (by omega))]
    rw [List.take_of_length_le (by omega)] at ha
    exact next e ha
  | succ m ih =>
    intro j N3 e hj hN3 ha
    obtain ⟨N3, rfl⟩ : ∃ q, N3 = q + 1 := ⟨N3 - 1, by omega⟩
    have hjl : j < ps.length := by omega
    obtain ⟨q, hq, hql⟩ := hps ps[j] (List.getElem_mem hjl)
    have htake : (ps.take (j + 1)).map Int.toNat = (ps.take j).map Int.toNat ++ [q] := by
      rw [List.take_add_one, List.getElem?_eq_getElem hjl, hq]
      simp
    have step : ∀ e, Acc G par ((ps.take j).map Int.toNat ++ [q]) e → Q (ssa_Doms_p535377319 kk N1 M1 N2 P2 y1 y2 y6 y10 y11 y54 N3 M3 (.ptr 4 0 0) (.ptr 5 0 0) x11 b e (.rv s) ps.length j h) := by
      intro e ha
      rw [ssa_Doms_p535377319_eq, wri_succ (by omega)]
      exact ih (j + 1) N3 e (by omega) (by omega) (by rw [htake]; exact ha)
    rw [ssa_Doms_l66922164_eq, bsp_of (decide_eq_true (by omega)), hs.at hjl, hq, d.dom hql]
    by_cases hp : par q = none
    · rw [bsp_of (decide_eq_true (dlv_neg.2 hp))]
      exact step e (ha.skip hp)
    · rw [bsp_not (decide_eq_false (fun h => hp (dlv_neg.1 h)))]
      have hnd : Nd G par q := ⟨hN q hp, hp⟩
      obtain ⟨a1, a2⟩ := ha.add hnd
      by_cases he : e < 0
      · rw [bsp_of (decide_eq_true he)]
        exact step q (a1 he)
      · obtain ⟨c, rfl, hc, hm⟩ := a2 he
        obtain ⟨c', hc', hrun⟩ := meet_spec g k d hc hnd hn
        rw [bsp_not (decide_eq_false he), ldv_at h5 (by rfl), callV_gen (G := G_ssa_Doms_c1) (by rfl) (by exact hrun), asInt_i]
        exact step c' (hm c' hc')
end
end Go.Proofs.Ytknphnmhjmejaaa
/-  The walk of immediate dominators: one turn over the blocks. No conditions. -/
namespace Go.Proofs.Ytknphnmhjmejaaa
set_option linter.unusedVariables false
theorem sum_le {f g : Nat → Nat} : ∀ l : List Nat, (∀ y ∈ l, f y ≤ g y) → (l.map f).sum ≤ (l.map g).sum
  | [], _ => by simp
  | x :: l, h => by
    have := sum_le l fun y hy => h y (by simp [hy])
    have := h x (by simp)
    simp only [List.map_cons, List.sum_cons]
    omega
theorem sum_lt {f g : Nat → Nat} {x : Nat} (hx : f x < g x) : ∀ l : List Nat, (∀ y ∈ l, f y ≤ g y) → x ∈ l → (l.map f).sum < (l.map g).sum
  | [], _, h => by cases h
  | y :: l, h, hm => by
    have h1 := sum_le l fun y hy => h y (by simp [hy])
    have h2 := h y (by simp)
    simp only [List.map_cons, List.sum_cons]
    rcases List.mem_cons.1 hm with rfl | hm
    · omega
    · have := sum_lt hx l (fun y hy => h y (by simp [hy])) hm
      omega
def phv (G : Gr) (par : Par) (x : Nat) : Nat := match par x with | some y => G.num y + 1 | none => 0
def phi (G : Gr) (P : List Nat) (par : Par) : Nat := (P.map (phv G par)).sum
theorem phi_upd {G : Gr} {P : List Nat} {par : Par} {y c : Nat} (hy : y ∈ P) (h : ∀ q, par y = some q → G.num q < G.num c) : phi G P par < phi G P (upd par y c) := by
  refine sum_lt (x := y) ?_ P (fun z hz => ?_) hy
  · unfold phv
    rw [upd_same]
    cases hq : par y with
    | none => simp
    | some q => have := h q hq; simp; omega
  · by_cases e : z = y
    · subst e
      unfold phv
      rw [upd_same]
      cases hq : par z with
      | none => simp
      | some q => have := h q hq; simp; omega
    · unfold phv
      rw [upd_ne e]
      exact Nat.le_refl _
section
variable {G : Gr} {P : List Nat} {n : Nat} {par : Par} {h : Hp}
theorem Acc.known {l : List Nat} {d : Int} (a : Acc G par l d) (hk : ∃ p ∈ l, par p ≠ none) : ∃ c : Nat, d = c ∧ Nd G par c ∧ ∀ e, Anc par c e ↔ ∀ p ∈ l, par p ≠ none → Anc par p e := by
  rcases a with ⟨_, h2⟩ | h
  · obtain ⟨p, hp, hs⟩ := hk
    exact absurd (h2 p hp) hs
  · exact h
/-- What lies where in a turn. -/
structure DW (P : List Nat) (n : Nat) (post : RV) (cs : List AV) (fo bo : Nat) (fl : Bool) (par : Par) (h : Hp) : Prop where
  d : DH P n par h
  o0 : h[0]? = some ⟨0, 1, cs⟩
  o5 : h[5]? = some ⟨0, 1, [.func id_ssa_Doms_c1 [] [.ptr 2 0 0, .ptr 4 0 0]]⟩
  of : h[fo]? = some ⟨0, 1, [ab fl]⟩
  f6 : 6 ≤ fo
  ob : h[bo]? = some ⟨0, 1, [.rv post]⟩
  b6 : 6 ≤ bo
  ne : fo ≠ bo
theorem DW.put {post : RV} {cs : List AV} {fo bo : Nat} {fl : Bool} (w : DW P n post cs fo bo fl par h) {b c : Nat} (hb : b < n) :
    DW P n post cs fo bo true (upd par b c) ((h.set 3 ⟨0, 1, ((dl par n).map ai).set b (ai c)⟩).set fo ⟨0, 1, [ab true]⟩) := by
  have hf := w.f6
  have hbo := w.b6
  have e3 : ((dl par n).map ai).set b (ai c) = (dl (upd par b c) n).map ai := by
    rw [← dl_set hb, List.map_set]
  rw [e3]
  have o3 : (h.set 3 ⟨0, 1, (dl (upd par b c) n).map ai⟩)[fo]? = some ⟨0, 1, [ab fl]⟩ := get_set_ne (by omega) w.of
  exact ⟨⟨get_set_ne (by omega) (get_set_ne (by omega) w.d.o1), get_set_ne (by omega) (get_set_ne (by omega) w.d.o2), get_set_ne (by omega) (get_set_eq w.d.o3), get_set_ne (by omega) (get_set_ne (by omega) w.d.o4)⟩,
    get_set_ne (by omega) (get_set_ne (by omega) w.o0), get_set_ne (by omega) (get_set_ne (by omega) w.o5), get_set_eq o3, hf, get_set_ne w.ne (get_set_ne (by omega) w.ob), hbo, w.ne⟩
structure Turn (G : Gr) (P : List Nat) (par0 par : Par) (fl : Bool) (v : Nat) : Prop where
  K : Kept G par v
  hN : ∀ x, par x ≠ none → G.N x
  same : fl = false → par = par0 ∧ ∀ y, G.N y → y ≠ 0 → v ≤ G.num y → ∃ c, par y = some c ∧ IsMeet G par y c
  more : fl = true → phi G P par0 < phi G P par
theorem Turn.keep {par0 : Par} {fl : Bool} {v : Nat} (t : Turn G P par0 par fl v) {y c : Nat} (y0 : y ≠ 0) (hy : G.N y) (hv : v = G.num y + 1) (m : IsMeet G par y c) (hc : par y = some c) : Turn G P par0 par fl (G.num y) := by
  have hu : upd par y c = par := by
    funext x
    unfold upd
    split
    · rename_i e; rw [e, hc]
    · rfl
  have hk := t.K.next hv (t.K.put y0 hy hv m)
  rw [hu] at hk
  refine ⟨hk, t.hN, fun hf => ⟨(t.same hf).1, fun z hz z0 hzv => ?_⟩, t.more⟩
  by_cases e : z = y
  · subst e
    exact ⟨c, hc, m⟩
  · have : G.num z ≠ G.num y := fun h => e (G.inj z y hz hy h)
    exact (t.same hf).2 z hz z0 (by omega)
theorem Turn.put {par0 : Par} {fl : Bool} {v : Nat} (hmem : ∀ x, G.N x ↔ x ∈ P) (t : Turn G P par0 par fl v) {y c : Nat} (y0 : y ≠ 0) (hy : G.N y) (hv : v = G.num y + 1) (m : IsMeet G par y c) (hc : par y ≠ some c) : Turn G P par0 (upd par y c) true (G.num y) := by
  have u := t.K.put y0 hy hv m
  have hphi : phi G P par < phi G P (upd par y c) := phi_upd ((hmem y).1 hy) fun q hq => (t.K.rises u hq).resolve_left fun e => hc (e ▸ hq)
  refine ⟨t.K.next hv u, fun x hx => ?_, fun h => (by cases h), fun _ => ?_⟩
  · by_cases e : x = y
    · rw [e]; exact hy
    · rw [upd_ne e] at hx; exact t.hN x hx
  · cases fl with
    | true => have := t.more rfl; omega
    | false => rw [← (t.same rfl).1]; exact hphi
/-- One turn, from the last block of the order to its first. -/
theorem turn_loop {bs : List Blk} (g : GrP G P bs.length) (hpr : G.pr = prd bs) (hl : bs.length ≤ 4096) (hpreds : ∀ (x : Nat) (b : Blk), bs[x]? = some b → ∀ z ∈ b.preds, ∃ q : Nat, z = q ∧ q < bs.length) (h0m : G.num 0 + 1 = P.length)
    {post p r v b : RV} (hpost : IsInts post (P.map Int.ofNat)) (hb : IsRows 6 IsBlk b bs) {par0 : Par} {fo bo : Nat} (kk N1 M1 : Nat) (hkk : kk = big) (y1 y54 : AV) (Q : Option (ARes × Hp) → Prop)
    (next : ∀ par fl h, Turn G P par0 par fl 0 → DW P bs.length post [.rv p, .rv r, .rv v, .rv b] fo bo fl par h → Q (ssa_Doms_b261414 kk N1 M1 0 (.ptr bo 0 0) y1 (.ptr 0 0 0) (.ptr 4 0 0) (.ptr 5 0 0) (.ptr fo 0 0) y54 h)) :
    ∀ (N : Nat) (par : Par) (fl : Bool) (h : Hp), N ≤ P.length → Turn G P par0 par fl (min N (G.num 0)) → DW P bs.length post [.rv p, .rv r, .rv v, .rv b] fo bo fl par h →
      Q (ssa_Doms_b261414 kk N1 M1 N (.ptr bo 0 0) y1 (.ptr 0 0 0) (.ptr 4 0 0) (.ptr 5 0 0) (.ptr fo 0 0) y54 h) := by
  intro N
  induction N with
  | zero =>
    intro par fl h _ t w
    rw [Nat.zero_min] at t
    exact next par fl h t w
  | succ N ih =>
    intro par fl h hN t w
    have hNl : N < P.length := by omega
    have hyP : P[N] ∈ P := List.getElem_mem hNl
    have hnum : G.num P[N] = N := by rw [g.num]; exact List.Nodup.idxOf_getElem g.nd N hNl
    have hyl := g.lt _ hyP
    have hat : N < (P.map Int.ofNat).length := by simpa using hNl
    have hval : (P.map Int.ofNat)[N] = ((P[N] : Nat) : Int) := by simp
    rw [ssa_Doms_b261414_eq, ldv_at w.ob (by rfl), hpost.at hat, hval]
    by_cases h0 : P[N] = 0
    · rw [bsp_of (by simpa using h0)]
      have hN0 : N = G.num 0 := by rw [← hnum, h0]
      refine ih par fl h (by omega) ?_ w
      rw [show min (N + 1) (G.num 0) = min N (G.num 0) by omega] at t
      exact t
    · have hlt0 := G.top P[N] ((g.mem _).2 hyP) h0
      obtain ⟨a, q, s, tt, rest', k1, k2, k3, k4, hbx⟩ := blk_at (R := ARes × Hp) hb hyl
      rw [bsp_not (by simpa using h0), pad_ptr, ldv_at w.o0 (by rfl), hbx, pad_rop3, ldv_rop, k2.len]
      have tK := t.K
      refine preds_loop g hl tK.k t.hN w.d w.o5 kk N1 M1 N _ y1 _ _ _ _ y54 (.ptr fo 0 0) P[N] _ k2 (hpreds _ _ (List.getElem?_eq_getElem hyl)) Q (fun e ha => ?_) bs[P[N]].preds.length 0 kk (-1) (by omega) ?_ (.inl ⟨rfl, by simp⟩)
      · have hz : G.num P[N] = N := hnum
        have hv : min (N + 1) (G.num 0) = G.num P[N] + 1 := by omega
        rw [hv] at t
        have htp := G.tp P[N] ((g.mem _).2 hyP) h0
        have hbp : bs[P[N]].preds.map Int.toNat = G.pr P[N] := by rw [hpr, prd_at hyl]
        rw [hbp] at ha
        obtain ⟨c, rfl, hc, hm⟩ := ha.known ⟨_, htp.1, t.K.was _ (G.pin _ ((g.mem _).2 hyP) _ htp.1) (by omega)⟩
        have hmin : min N (G.num 0) = G.num P[N] := by omega
        rw [ssa_Doms_p8365271_eq, w.d.dom hyl]
        by_cases hcp : par P[N] = some c
        · rw [dlv_some hcp, bsp_not (by simp)]
          exact ih par fl h (by omega) (by rw [hmin]; exact t.keep h0 ((g.mem _).2 hyP) rfl hm hcp) w
        · have hne : ((c : Int) != dlv par P[N]) = true := by
            rw [bne_iff_ne]
            intro e
            unfold dlv at e
            split at e
            · rename_i z hz
              exact hcp (by rw [hz]; congr 1; omega)
            · omega
          rw [bsp_of hne, ldv_at w.d.o4 (by rfl), sl_at hyl, stv_at w.d.o3 (by simp [dl_len]; exact hyl) (by rfl) (by rfl)]
          have w2 := w.put (b := P[N]) (c := c) hyl
          have o3 : (h.set 3 ⟨0, 1, ((dl par bs.length).map ai).set P[N] (ai c)⟩)[fo]? = some ⟨0, 1, [ab fl]⟩ := get_set_ne (by have := w.f6; omega) w.of
          rw [stv_at o3 (by simp) (by rfl) (by rfl)]
          exact ih _ true _ (by omega) (by rw [hmin]; exact t.put g.mem h0 ((g.mem _).2 hyP) rfl hm hcp) w2
      · have := k2.short
        rw [hkk, big_val]
        omega
end
end Go.Proofs.Ytknphnmhjmejaaa
/-  The walk of immediate dominators: turn upon turn, until nothing turns. No conditions. -/
namespace Go.Proofs.Ytknphnmhjmejaaa
set_option linter.unusedVariables false
theorem sum_bound {f : Nat → Nat} {c : Nat} : ∀ l : List Nat, (∀ y ∈ l, f y ≤ c) → (l.map f).sum ≤ l.length * c
  | [], _ => by simp
  | x :: l, h => by
    have h1 := sum_bound l fun y hy => h y (by simp [hy])
    have h2 := h x (by simp)
    simp only [List.map_cons, List.sum_cons, List.length_cons, Nat.add_mul]
    omega
theorem ints_vcells {l : RV} {xs : List Int} (k : IsInts l xs) : vcells (.rv l) = some [.rv l] := by
  cases k <;> rfl
section
variable {G : Gr} {P : List Nat} {n : Nat} {par : Par} {h : Hp}
theorem phi_le (g : GrP G P n) (k : Inv G par) : phi G P par ≤ P.length * P.length := by
  refine sum_bound P fun x hx => ?_
  unfold phv
  split
  · rename_i y hy
    have hN : G.N y := by
      by_cases e : x = 0
      · subst e
        rw [k.root] at hy
        cases hy
        exact G.n0
      · exact (k.up x y e hy).2.1
    rw [g.num]
    exact List.idxOf_lt_length_iff.2 ((g.mem y).1 hN)
  · exact Nat.zero_le _
/-- What is so when nothing turns any more. -/
structure Done (G : Gr) (par : Par) : Prop where
  k : Inv G par
  hN : ∀ x, par x ≠ none → G.N x
  all : ∀ b, G.N b → par b ≠ none
  fix : ∀ b q, G.N b → b ≠ 0 → par b = some q → IsMeet G par b q
theorem pass_loop {bs : List Blk} (g : GrP G P bs.length) (hpr : G.pr = prd bs) (hl : bs.length ≤ 4096) (hpreds : ∀ (x : Nat) (b : Blk), bs[x]? = some b → ∀ z ∈ b.preds, ∃ q : Nat, z = q ∧ q < bs.length) (h0m : G.num 0 + 1 = P.length)
    {post p r v b : RV} (hpost : IsInts post (P.map Int.ofNat)) (hb : IsRows 6 IsBlk b bs) (kk M1 : Nat) (hkk : kk = big) :
    ∀ (w N : Nat) (par : Par) (fo : Nat) (h : Hp), P.length * P.length - phi G P par ≤ w → w + 1 < N → Kept G par (G.num 0) → (∀ x, par x ≠ none → G.N x) → DH P bs.length par h → h[0]? = some ⟨0, 1, [.rv p, .rv r, .rv v, .rv b]⟩ →
      h[5]? = some ⟨0, 1, [.func id_ssa_Doms_c1 [] [.ptr 2 0 0, .ptr 4 0 0]]⟩ → h[fo]? = some ⟨0, 1, [ab true]⟩ → 6 ≤ fo →
      ∃ par' h', Done G par' ∧ DH P bs.length par' h' ∧ ssa_Doms_l4084 kk N M1 (.rv post) (.ptr 0 0 0) (.ptr 4 0 0) (.ptr 5 0 0) (.ptr fo 0 0) h = ssa_Doms_p511 kk (.ptr 4 0 0) h' := by
  intro w
  induction w using Nat.strongRecOn with
  | _ w ih =>
    intro N par fo h hw hN K hNn d o0 o5 of f6
    obtain ⟨N, rfl⟩ : ∃ q, N = q + 1 := ⟨N - 1, by omega⟩
    have hfl := get_lt of
    have hbk : ∀ h : Hp, G_slices_Backward_int [.rv post] h = some (.ret (.func id_slices_Backward_c1_int [] [.ptr h.length 0 0]), h ++ [⟨0, 1, [.rv post]⟩]) := by
      intro h
      unfold G_slices_Backward_int
      rw [slices_Backward_int_eq, ints_vcells hpost]
      rfl
    have hrf : ∀ {R : Type} (x : AV) (K : AV → Option R), rfA ssa_Doms_G (.func id_slices_Backward_c1_int [] [x]) K = K x := fun x K => rfl
    have hbn : ∀ {R : Type} (K : Nat → Option R), bkn (.rv post) K = K P.length := by
      intro R K
      have hs := hpost.short
      unfold bkn
      rw [hpost.len, if_pos (by unfold room; omega)]
      simp
    rw [ssa_Doms_l4084_eq, ldb_at of (by rfl), bsp_of rfl, stv_at of (by simp) (by rfl) (by rfl), callG_ret (hbk _), hrf, ldv_at (get_new _) (by rfl), hbn]
    have hmin : min P.length (G.num 0) = G.num 0 := by omega
    refine turn_loop (p := p) (r := r) (v := v) (par0 := par) (fo := fo) (bo := (h.set fo ⟨0, 1, [ab false]⟩).length) g hpr hl hpreds h0m hpost hb kk N M1 hkk _ _ (fun o => ∃ par' h', Done G par' ∧ DH P bs.length par' h' ∧ o = ssa_Doms_p511 kk (.ptr 4 0 0) h') (fun par2 fl2 h2 t2 w2 => ?_) P.length par false _ (Nat.le_refl _) ?_ ?_
    · have o6 : (h2 ++ [⟨0, 1, [ab fl2]⟩])[h2.length]? = some ⟨0, 1, [ab fl2]⟩ := get_new _
      have hst : stv 1 (h2 ++ [⟨0, 1, [.rv (.bool false)]⟩]) (.ptr h2.length 0 0) (.rv (.bool fl2)) = fun (K : Hp → Option (ARes × Hp)) => K (h2 ++ [⟨0, 1, [ab fl2]⟩]) := by
        funext K
        rw [stv_at (get_new _) (by simp) (by rfl) (by rfl)]
        simp
      have hl6 : 6 ≤ h2.length := Nat.le_of_lt (Nat.lt_of_le_of_lt w2.b6 (get_lt w2.ob))
      have d2 : DH P bs.length par2 (h2 ++ [⟨0, 1, [ab fl2]⟩]) := ⟨get_old w2.d.o1 _, get_old w2.d.o2 _, get_old w2.d.o3 _, get_old w2.d.o4 _⟩
      rw [ssa_Doms_b261414_nil, ldb_at w2.of (by rfl)]
      simp only [nwc, hst]
      cases fl2 with
      | false =>
        obtain ⟨N, rfl⟩ : ∃ q, N = q + 1 := ⟨N - 1, by omega⟩
        refine ⟨par2, _, ⟨t2.K.k, t2.hN, fun b hb => t2.K.was b hb (Nat.zero_le _), fun b q hb b0 hq => ?_⟩, d2, ?_⟩
        · obtain ⟨c, h1, h2⟩ := (t2.same rfl).2 b hb b0 (Nat.zero_le _)
          rw [h1] at hq
          cases hq
          exact h2
        · rw [ssa_Doms_l4084_eq, ldb_at o6 (by rfl), bsp_not rfl]
      | true =>
        have h1 := t2.more rfl
        have h3 := phi_le g t2.K.k
        exact ih (P.length * P.length - phi G P par2) (by omega) N par2 _ _ (Nat.le_refl _) (by omega) (t2.K.again rfl) t2.hN d2 (get_old w2.o0 _) (get_old w2.o5 _) o6 hl6
    · rw [hmin]
      refine ⟨K, hNn, fun _ => ⟨rfl, fun y hy y0 h => ?_⟩, fun h => (by cases h)⟩
      have := G.top y hy y0
      omega
    · exact ⟨⟨get_old (get_set_ne (by omega) d.o1) _, get_old (get_set_ne (by omega) d.o2) _, get_old (get_set_ne (by omega) d.o3) _, get_old (get_set_ne (by omega) d.o4) _⟩, get_old (get_set_ne (by omega) o0) _, get_old (get_set_ne (by omega) o5) _, get_old (get_set_eq of) _, f6, get_new _, by simp; omega, by simp; omega⟩
end
end Go.Proofs.Ytknphnmhjmejaaa
/-  The walk of immediate dominators: how it begins and ends. No conditions. -/
namespace Go.Proofs.Ytknphnmhjmejaaa
set_option linter.unusedVariables false
/-- A list of which the first are -1. -/
def neg1 (k n : Nat) : List Int := List.replicate k (-1) ++ List.replicate (n - k) 0
theorem neg1_set {k n : Nat} (h : k < n) : (neg1 k n).set k (-1) = neg1 (k + 1) n := by
  apply List.ext_getElem?
  intro i
  unfold neg1
  rw [List.getElem?_set]
  simp only [List.length_append, List.length_replicate, List.getElem?_append, List.getElem?_replicate]
  by_cases e : k = i
  · subst e
    simp
    omega
  · simp only [if_neg e]
    by_cases h1 : i < k
    · simp only [h1, show i < k + 1 by omega, if_true]
    · simp only [h1, show ¬ i < k + 1 by omega, if_false]
      by_cases h2 : i < n
      · simp only [show i - k < n - k by omega, show i - (k + 1) < n - (k + 1) by omega, if_true]
      · simp only [show ¬ i - k < n - k by omega, show ¬ i - (k + 1) < n - (k + 1) by omega, if_false]
theorem neg1_len {k n : Nat} (h : k ≤ n) : (neg1 k n).length = n := by
  simp [neg1]; omega
/-- What lies where while all begins. -/
structure DB (n : Nat) (a b : List Int) (h : Hp) : Prop where
  o1 : h[1]? = some ⟨0, 1, a.map ai⟩
  o2 : h[2]? = some ⟨0, 1, [.sl 1 0 0 n]⟩
  o3 : h[3]? = some ⟨0, 1, b.map ai⟩
  o4 : h[4]? = some ⟨0, 1, [.sl 3 0 0 n]⟩
theorem sv1_at {R : Type} {h : Hp} {o v e off : Nat} {cs : List AV} {x : AV} (ho : h[o]? = some ⟨v, e, cs⟩) (hx : cs[off]? = some x) (K : Option R) : sv1 h (.ptr o v off) x K = K := by
  unfold sv1
  rw [if_pos]
  simp [cellAt, ho, hx]
theorem init_loop {n : Nat} (hn : n ≤ 4096) (kk M : Nat) (x1 p1 : AV) (o0 : Option Ob) (Q : Option (ARes × Hp) → Prop)
    (next : ∀ h, h.length = 5 → h[0]? = o0 → DB n (neg1 n n) (neg1 n n) h → Q (ssa_Doms_p31 kk x1 p1 (.ptr 2 0 0) (.ptr 4 0 0) h)) :
    ∀ (m i N : Nat) (h : Hp), i + m = n → m < N → h.length = 5 → h[0]? = o0 → DB n (neg1 i n) (neg1 i n) h → Q (ssa_Doms_l244 kk N M x1 p1 (.ptr 2 0 0) (.ptr 4 0 0) n i h) := by
  intro m
  induction m with
  | zero =>
    intro i N h hi hN hlen h0 d
    obtain ⟨N, rfl⟩ : ∃ q, N = q + 1 := ⟨N - 1, by omega⟩
    have : i = n := by omega
    subst this
    rw [ssa_Doms_l244_eq, bsp_not (decide_eq_false (by omega))]
    exact next h hlen h0 d
  | succ m ih =>
    intro i N h hi hN hlen h0 d
    obtain ⟨N, rfl⟩ : ∃ q, N = q + 1 := ⟨N - 1, by omega⟩
    have hin : i < n := by omega
    have e1 : ((neg1 i n).map ai).set i (ai (-1)) = (neg1 (i + 1) n).map ai := by
      rw [← neg1_set hin, List.map_set]
    have hl : i < ((neg1 i n).map ai).length := by rw [List.length_map, neg1_len (by omega)]; exact hin
    rw [ssa_Doms_l244_eq, bsp_of (decide_eq_true (by omega)), ldv_at d.o2 (by rfl), ldv_at d.o4 (by rfl), sl_at hin, stv_at d.o1 hl (by rfl) (by rfl), e1]
    have k4 : (h.set 1 ⟨0, 1, (neg1 (i + 1) n).map ai⟩)[4]? = some ⟨0, 1, [.sl 3 0 0 n]⟩ := get_set_ne (by omega) d.o4
    have k3 : (h.set 1 ⟨0, 1, (neg1 (i + 1) n).map ai⟩)[3]? = some ⟨0, 1, (neg1 i n).map ai⟩ := get_set_ne (by omega) d.o3
    rw [sv1_at k4 (by rfl), sl_at hin, stv_at k3 hl (by rfl) (by rfl), e1, wri_succ (by omega)]
    refine ih (i + 1) N _ (by omega) (by omega) (by simp [hlen]) ?_ ⟨get_set_ne (by omega) (get_set_eq d.o1), get_set_ne (by omega) (get_set_ne (by omega) d.o2), get_set_eq k3, get_set_ne (by omega) k4⟩
    rw [List.getElem?_set_ne (by omega), List.getElem?_set_ne (by omega)]
    exact h0
theorem neg1_rks (P : List Nat) (n : Nat) : neg1 n n = rks P 0 n := by
  apply List.ext_getElem?
  intro i
  by_cases hi : i < n
  · rw [rks_at hi]
    simp [neg1, rk, hi]
  · rw [List.getElem?_eq_none (by rw [neg1_len (Nat.le_refl _)]; omega), List.getElem?_eq_none (by rw [rks_len]; omega)]
theorem rank_loop {P : List Nat} {n : Nat} (hnd : P.Nodup) (hlt : ∀ x ∈ P, x < n) {post : RV} (hpost : IsInts post (P.map Int.ofNat)) (b : List Int) (kk M : Nat) (p1 : AV) (o0 : Option Ob) (Q : Option (ARes × Hp) → Prop)
    (next : ∀ h, h.length = 5 → h[0]? = o0 → DB n (rks P P.length n) b h → Q (ssa_Doms_p63 kk (.rv post) p1 (.ptr 2 0 0) (.ptr 4 0 0) h)) :
    ∀ (m i N : Nat) (h : Hp), i + m = P.length → m < N → h.length = 5 → h[0]? = o0 → DB n (rks P i n) b h → Q (ssa_Doms_l500 kk N M (.rv post) p1 (.ptr 2 0 0) (.ptr 4 0 0) (.rv post) P.length i h) := by
  have hsh := hpost.short
  rw [List.length_map] at hsh
  intro m
  induction m with
  | zero =>
    intro i N h hi hN hlen h0 d
    obtain ⟨N, rfl⟩ : ∃ q, N = q + 1 := ⟨N - 1, by omega⟩
    have : i = P.length := by omega
    subst this
    rw [ssa_Doms_l500_eq, bsp_not (decide_eq_false (by omega))]
    exact next h hlen h0 d
  | succ m ih =>
    intro i N h hi hN hlen h0 d
    obtain ⟨N, rfl⟩ : ∃ q, N = q + 1 := ⟨N - 1, by omega⟩
    have hil : i < P.length := by omega
    have hat : i < (P.map Int.ofNat).length := by simpa using hil
    have hval : (P.map Int.ofNat)[i] = ((P[i] : Nat) : Int) := by simp
    have hxl := hlt _ (List.getElem_mem hil)
    have e1 : ((rks P i n).map ai).set P[i] (ai i) = (rks P (i + 1) n).map ai := by
      rw [← rks_set hnd hil hxl, List.map_set]
    rw [ssa_Doms_l500_eq, bsp_of (decide_eq_true (by omega)), hpost.at hat, hval, ldv_at d.o2 (by rfl), sl_at hxl, stv_at d.o1 (by rw [List.length_map, rks_len]; exact hxl) (by rfl) (by rfl), e1, wri_succ (by omega)]
    refine ih (i + 1) N _ (by omega) (by omega) (by simp [hlen]) ?_ ⟨get_set_eq d.o1, get_set_ne (by omega) d.o2, get_set_ne (by omega) d.o3, get_set_ne (by omega) d.o4⟩
    rw [List.getElem?_set_ne (by omega)]
    exact h0
end Go.Proofs.Ytknphnmhjmejaaa
/-  The walk of immediate dominators: the function. No conditions. -/
namespace Go.Proofs.Ytknphnmhjmejaaa
set_option linter.unusedVariables false
theorem var_one {R : Type} {z x : AV} {h : Hp} (hc : vcells x = some [x]) (ho : oneA x = true) (K : AV → Hp → Option R) :
    (nwc 1 (some [z]) h fun p h2 => stv 1 h2 p x fun h3 => K p h3) = K (.ptr h.length 0 0) (h ++ [⟨0, 1, [x]⟩]) := by
  simp only [nwc]
  rw [stv_at (get_new _) (by simp) ho hc]
  simp
theorem Doms_spec {cs : List RV} {d : Cd} (hd : IsCd cs d) (hf : formOk d.blocks = true) (hq : FlowOk d.blocks) {P : List Nat} (hP : IsPost d.blocks P) {post : RV} (hpost : IsInts post (P.map Int.ofNat)) :
    ∃ par x, Done (grOf hf hq hP) par ∧ F_ssa_Doms [.agg cs, post] = some (.ret x) ∧ IsInts x ((dl par d.blocks.length).set 0 (-1)) := by
  obtain ⟨p, r, v, b, rfl, _, _, _, hb⟩ := hd
  have hl : 0 < d.blocks.length ∧ d.blocks.length ≤ 4096 := by
    simp only [formOk, Bool.and_eq_true, decide_eq_true_eq] at hf
    exact hf.1
  have g := grP hf hq hP
  have h0m : (grOf hf hq hP).num 0 + 1 = P.length := by
    obtain ⟨P0, e⟩ := hP.last
    have h2 : P0.length < P.length := by rw [e]; simp
    have h3 := List.Nodup.idxOf_getElem g.nd _ h2
    have h4 : P[P0.length] = 0 := by simp [e]
    rw [h4] at h3
    rw [g.num, h3, e]
    simp
  unfold F_ssa_Doms
  rw [List.map_cons, List.map_cons, List.map_nil, ssa_Doms_eq, box_agg, pad_ptr, ldv_at (get_new _) (by rfl), hb.len, mks_one (by omega) (by omega), var_one (by rfl) (by rfl), pad_ptr]
  rw [ldv_at (o := ([] : Hp).length) (by rfl) (by rfl), hb.len, mks_one (by omega) (by omega), var_one (by rfl) (by rfl), ldv_at (get_new _) (by rfl), sl_len]
  have hz : zrep [AV.rv (.int .i64 0)] d.blocks.length = (neg1 0 d.blocks.length).map ai := by simp [zrep, neg1]
  rw [hz]
  obtain ⟨h0, eh0⟩ : ∃ h0 : Hp, h0 = [⟨0, 1, [.rv p, .rv r, .rv v, .rv b]⟩, ⟨0, 1, (neg1 0 d.blocks.length).map ai⟩, ⟨0, 1, [.sl 1 0 0 d.blocks.length]⟩, ⟨0, 1, (neg1 0 d.blocks.length).map ai⟩, ⟨0, 1, [.sl 3 0 0 d.blocks.length]⟩] := ⟨_, rfl⟩
  have start : ∃ par' h', Done (grOf hf hq hP) par' ∧ DH P d.blocks.length par' h' ∧ ssa_Doms_l244 big big h0.length (.rv post) (.ptr 0 0 0) (.ptr 2 0 0) (.ptr 4 0 0) d.blocks.length ((0 : Nat) : Int) h0 = ssa_Doms_p511 big (.ptr 4 0 0) h' := by
    have hd0 : DB d.blocks.length (neg1 0 d.blocks.length) (neg1 0 d.blocks.length) h0 := by subst eh0; exact ⟨rfl, rfl, rfl, rfl⟩
    have hlen0 : h0.length = 5 := by subst eh0; rfl
    refine init_loop hl.2 big _ (.rv post) (.ptr 0 0 0) h0[0]? (fun o => ∃ par' h', Done (grOf hf hq hP) par' ∧ DH P d.blocks.length par' h' ∧ o = ssa_Doms_p511 big (.ptr 4 0 0) h') (fun h1 hlen1 h10 hd1 => ?_) d.blocks.length 0 big h0 (by omega) (by rw [big_val]; omega) hlen0 rfl hd0
    rw [ssa_Doms_p31_eq, hpost.len, List.length_map]
    have hple : P.length < big := by have := hpost.short; rw [List.length_map] at this; rw [big_val]; omega
    rw [neg1_rks P] at hd1
    have hd1' : DB d.blocks.length (rks P 0 d.blocks.length) (neg1 d.blocks.length d.blocks.length) h1 := ⟨hd1.o1, hd1.o2, by rw [neg1_rks P]; exact hd1.o3, hd1.o4⟩
    refine rank_loop g.nd g.lt hpost (neg1 d.blocks.length d.blocks.length) big _ (.ptr 0 0 0) h0[0]? (fun o => ∃ par' h', Done (grOf hf hq hP) par' ∧ DH P d.blocks.length par' h' ∧ o = ssa_Doms_p511 big (.ptr 4 0 0) h') (fun h2 hlen2 h20 hd2 => ?_) P.length 0 big h1 (by omega) hple hlen1 h10 hd1'
    have hds : neg1 d.blocks.length d.blocks.length = dl (fun _ => none) d.blocks.length := by
      apply List.ext_getElem?
      intro i
      by_cases hi : i < d.blocks.length
      · rw [dl_at hi]; simp [neg1, dlv, hi]
      · rw [List.getElem?_eq_none (by rw [neg1_len (Nat.le_refl _)]; omega), List.getElem?_eq_none (by rw [dl_len]; omega)]
    rw [hds] at hd2
    have e3 : ((dl (fun _ => none) d.blocks.length).map ai).set 0 (ai ((0 : Nat) : Int)) = (dl (upd (fun _ => none) 0 0) d.blocks.length).map ai := by rw [← dl_set hl.1, List.map_set]
    have h00 : h2[0]? = some ⟨0, 1, [.rv p, .rv r, .rv v, .rv b]⟩ := by rw [h20]; subst eh0; rfl
    rw [ssa_Doms_p63_eq, var_one (by rfl) (by rfl), ldv_at (get_old hd2.o4 _) (by rfl), show (0 : Int) = ((0 : Nat) : Int) from rfl, sl_at hl.1, stv_at (get_old hd2.o3 _) (by rw [List.length_map, dl_len]; exact hl.1) (by rfl) (by rfl), e3, var_one (by rfl) (by rfl)]
    have hl6 : ((h2 ++ [(⟨0, 1, [.func id_ssa_Doms_c1 [] [.ptr 2 0 0, .ptr 4 0 0]]⟩ : Ob)]).set 3 (⟨0, 1, (dl (upd (fun _ => none) 0 0) d.blocks.length).map ai⟩ : Ob) : Hp).length = 6 := by simp [hlen2]
    have K0 : Kept (grOf hf hq hP) (upd (fun _ => none) 0 0) ((grOf hf hq hP).num 0) := Kept.init upd_same fun x hx => by rw [upd_ne hx]
    have o5 : ((h2 ++ [(⟨0, 1, [.func id_ssa_Doms_c1 [] [.ptr 2 0 0, .ptr 4 0 0]]⟩ : Ob)]).set 3 (⟨0, 1, (dl (upd (fun _ => none) 0 0) d.blocks.length).map ai⟩ : Ob) : Hp)[5]? = some ⟨0, 1, [.func id_ssa_Doms_c1 [] [.ptr 2 0 0, .ptr 4 0 0]]⟩ := by
      refine get_set_ne (by omega) ?_
      rw [← hlen2]
      exact get_new _
    have hPle : P.length ≤ 4096 := by have := nodup_le _ P g.nd g.lt; omega
    have hsq : P.length * P.length ≤ 4096 * 4096 := Nat.mul_le_mul hPle hPle
    have hfin := pass_loop g rfl hl.2 (formOk_preds hf) h0m hpost hb big (((h2 ++ [(⟨0, 1, [.func id_ssa_Doms_c1 [] [.ptr 2 0 0, .ptr 4 0 0]]⟩ : Ob)]).set 3 (⟨0, 1, (dl (upd (fun _ => none) 0 0) d.blocks.length).map ai⟩ : Ob) : Hp) ++ [(⟨0, 1, [ab true]⟩ : Ob)]).length rfl (p := p) (r := r) (v := v) _ big (upd (fun _ => none) 0 0) 6
      (((h2 ++ [(⟨0, 1, [.func id_ssa_Doms_c1 [] [.ptr 2 0 0, .ptr 4 0 0]]⟩ : Ob)]).set 3 (⟨0, 1, (dl (upd (fun _ => none) 0 0) d.blocks.length).map ai⟩ : Ob) : Hp) ++ [(⟨0, 1, [ab true]⟩ : Ob)]) (Nat.le_refl _) (by rw [big_val]; omega) K0
      (fun x hx => by
        by_cases e : x = 0
        · rw [e]; exact (grOf hf hq hP).n0
        · rw [upd_ne e] at hx; exact absurd rfl hx)
      ⟨get_old (get_set_ne (by omega) (get_old hd2.o1 _)) _, get_old (get_set_ne (by omega) (get_old hd2.o2 _)) _, get_old (get_set_eq (get_old hd2.o3 _)) _, get_old (get_set_ne (by omega) (get_old hd2.o4 _)) _⟩
      (get_old (get_set_ne (by omega) (get_old h00 _)) _) (get_old o5 _) (by rw [← hl6]; exact get_new _) (Nat.le_refl _)
    rw [hl6, hlen2]
    exact hfin
  obtain ⟨par, h', hdone, hdh, hrun⟩ := start
  subst eh0
  refine ⟨par, .ros (ints ((dl par d.blocks.length).set 0 (-1))) d.blocks.length, hdone, ?_, ?_⟩
  · refine (congrArg pureR hrun).trans ?_
    have e3 : ((dl par d.blocks.length).map ai).set 0 (ai (-1)) = ((dl par d.blocks.length).set 0 (-1)).map ai := by rw [List.map_set]
    rw [ssa_Doms_p511_eq, ldv_at hdh.o4 (by rfl), show (0 : Int) = ((0 : Nat) : Int) from rfl, sl_at hl.1, stv_at hdh.o3 (by rw [List.length_map, dl_len]; exact hl.1) (by rfl) (by rfl), e3, ldv_at (get_set_ne (by omega) hdh.o4) (by rfl)]
    have := toRV_ints (v := 0) (o := 3) (h := h'.set 3 ⟨0, 1, ((dl par d.blocks.length).set 0 (-1)).map ai⟩) (xs := (dl par d.blocks.length).set 0 (-1)) (get_set_eq hdh.o3)
    rw [List.length_set, dl_len] at this
    simp only [pureR, this]
    rfl
  · have := IsInts.mk ((dl par d.blocks.length).set 0 (-1)) (by rw [List.length_set, dl_len]; omega)
    rw [List.length_set, dl_len] at this
    exact this
end Go.Proofs.Ytknphnmhjmejaaa
/-  The walk of immediate dominators: what the list of them says. No conditions. -/
namespace Go.Proofs.Ytknphnmhjmejaaa
set_option linter.unusedVariables false
theorem av_rch {bs : List Blk} {P : List Nat} (hf : formOk bs = true) (hq : FlowOk bs) (hP : IsPost bs P) {b k : Nat} (hk : k ∈ P) : (grOf hf hq hP).Av b k ↔ b ≠ 0 ∧ Rch bs (b : Int) 0 k := by
  have hl : 0 < bs.length := by
    simp only [formOk, Bool.and_eq_true, decide_eq_true_eq] at hf
    exact hf.1.1
  have hlt := (hP.facts (formOk_succs hf) hl).2.1
  constructor
  · intro h
    induction h with
    | root h0 => exact ⟨fun e => h0 e.symm, .start⟩
    | @step p x r hp hN hd ih =>
      have hpN : p ∈ P := (grOf hf hq hP).pin x hN p hp
      have hpl := hlt p hpN
      obtain ⟨h0, hr⟩ := ih hpN
      refine ⟨h0, .step hr (List.getElem?_eq_getElem hpl) ((sucs_mem hf hpl).1 ((prd_sucs hf hq hpl (hlt x hN)).2 hp)) (by omega)⟩
  · rintro ⟨h0, hr⟩
    have key : ∀ x, Rch bs (b : Int) 0 x → x ∈ P ∧ (grOf hf hq hP).Av b x := by
      intro x hx
      induction hx with
      | start => exact ⟨(grOf hf hq hP).n0, .root (fun e => h0 e.symm)⟩
      | @step a x c r hb hn hw ih =>
        obtain ⟨haP, hav⟩ := ih
        have hal := hlt a haP
        have e : c = bs[a] := by rw [List.getElem?_eq_getElem hal] at hb; exact (Option.some.inj hb).symm
        subst e
        have hs : x ∈ sucs bs a := (sucs_mem hf hal).2 hn
        have hxP : x ∈ P := (hP.mem x).2 (.step ((hP.mem a).1 haP) hs)
        exact ⟨hxP, .step hav ((prd_sucs hf hq hal (hlt x hxP)).1 hs) hxP (by omega)⟩
    exact (key k hr).2
/-- The list's words: of the first block -1. -/
def dv (par : Par) (x : Nat) : Int := if x = 0 then -1 else dlv par x
def dvs (par : Par) (n : Nat) : List Int := (dl par n).set 0 (-1)
theorem dvs_len (par : Par) (n : Nat) : (dvs par n).length = n := by rw [dvs, List.length_set, dl_len]
theorem dvs_at {par : Par} {n x : Nat} (hx : x < n) : (dvs par n)[x]? = some (dv par x) := by
  rw [dvs, List.getElem?_set, dv]
  by_cases e : x = 0
  · subst e
    simp [dl_len, hx]
  · rw [if_neg (fun h => e h.symm), dl_at hx, if_neg e]
section
variable {G : Gr} {par : Par}
theorem Done.dv_step (k : Done G par) {x : Nat} (hx : G.N x) : (x = 0 ∧ dv par x = -1) ∨ (x ≠ 0 ∧ ∃ y : Nat, par x = some y ∧ dv par x = (y : Int) ∧ G.N y ∧ G.num x < G.num y) := by
  by_cases e : x = 0
  · exact .inl ⟨e, by simp [dv, e]⟩
  · obtain ⟨y, hy⟩ := Option.ne_none_iff_exists'.1 (k.all x hx)
    obtain ⟨_, h2, h3, _⟩ := k.k.up x y e hy
    exact .inr ⟨e, y, hy, by rw [dv, if_neg e, dlv_some hy], h2, h3⟩
theorem Done.dv_hole (k : Done G par) {x : Nat} (hx : ¬ G.N x) : dv par x = -1 := by
  have : par x = none := by
    cases e : par x with
    | none => rfl
    | some y => exact absurd (k.hN x (by rw [e]; simp)) hx
  have h0 : x ≠ 0 := by rintro rfl; exact hx G.n0
  rw [dv, if_neg h0]
  simp [dlv, this]
theorem Done.anc0 (k : Done G par) {b : Nat} : Anc par 0 b ↔ b = 0 := ⟨fun h => k.k.nz h rfl, fun e => by rw [e]; exact .refl 0⟩
theorem anc_step {x y b : Nat} (hp : par x = some y) : Anc par x b ↔ x = b ∨ Anc par y b := by
  constructor
  · intro h
    by_cases e : x = b
    · exact .inl e
    · exact .inr (h.next e hp)
  · rintro (rfl | h)
    · exact .refl _
    · exact .step hp h
end
theorem post_num0 {bs : List Blk} {P : List Nat} (hf : formOk bs = true) (hq : FlowOk bs) (hP : IsPost bs P) : (grOf hf hq hP).num 0 + 1 = P.length := by
  have g := grP hf hq hP
  obtain ⟨P0, e⟩ := hP.last
  have h2 : P0.length < P.length := by rw [e]; simp
  have h3 := List.Nodup.idxOf_getElem g.nd _ h2
  have h4 : P[P0.length] = 0 := by simp [e]
  rw [h4] at h3
  rw [g.num, h3, e]
  simp
theorem dvs_get {par : Par} {n y : Nat} (h : y < (dvs par n).length) : (dvs par n)[y] = dv par y := by
  have hy : y < n := by rwa [dvs_len] at h
  have := dvs_at (par := par) hy
  rw [List.getElem?_eq_getElem h] at this
  exact Option.some.inj this
theorem Done.ups {G : Gr} {par : Par} (k : Done G par) {P : List Nat} {n : Nat} (g : GrP G P n) : ∀ y ∈ dvs par n, (-1 : Int) ≤ y ∧ y < ((dvs par n).length : Int) := by
  intro y hy
  obtain ⟨i, hi, rfl⟩ := List.getElem_of_mem hy
  rw [dvs_get hi]
  rw [dvs_len] at hi ⊢
  by_cases hN : G.N i
  · rcases k.dv_step hN with ⟨_, e⟩ | ⟨_, q, _, e, hq, _⟩
    · rw [e]; omega
    · rw [e]
      have := g.lt q ((g.mem q).1 hq)
      omega
  · rw [k.dv_hole hN]; omega
theorem Done.exact {G : Gr} {par : Par} (k : Done G par) {b d : Nat} (hN : G.N b) : Anc par b d ↔ ¬ G.Av d b := k.k.exact k.all k.fix hN
theorem ssaPost_spec {cs : List RV} {d : Cd} {P : List Nat} (hd : IsCd cs d) (hl : 0 < d.blocks.length ∧ d.blocks.length ≤ 4096) (hok : okSuccs d.blocks) (hP : IsPost d.blocks P) :
    ∃ x, F_ssa_Post [.agg cs] = some (.ret x) ∧ IsInts x (P.map Int.ofNat) := by
  obtain ⟨x, e, hx⟩ := reached_spec hd hl hok hP
  refine ⟨x, ?_, hx⟩
  obtain ⟨p, r, v, b, rfl, _, _, _, hb⟩ := hd
  unfold F_ssa_Post
  rw [List.map_cons, List.map_nil, ssa_Post_eq, box_agg, List.nil_append, List.length_nil, show List.map AV.rv [p, r, v, b] = [.rv p, .rv r, .rv v, .rv b] from rfl, ldg_at (by rfl) (by rfl), callP_ret (by simp [toRV, depthA]) e (.inl rfl)]
  simp [pureR, toRV, depthA]
theorem flowDoms_bad {cs : List RV} {d : Cd} (hd : IsCd cs d) : (formOk d.blocks = false → F_flow_Doms [.agg cs] = some (.ret (.tuple [.nils, I 130]))) ∧ (formOk d.blocks = true → ¬ FlowOk d.blocks → F_flow_Doms [.agg cs] = some (.ret (.tuple [.nils, I 131]))) := by
  have hd' := hd
  obtain ⟨p, r, v, b, rfl, _, _, _, hb⟩ := hd
  have key : ∀ e : Int, e ≠ 0 → F_ssa_Flow [.agg [p, r, v, b]] = some (.ret (I e)) → F_flow_Doms [.agg [p, r, v, b]] = some (.ret (.tuple [.nils, I e])) := by
    intro e he hF
    unfold F_flow_Doms
    rw [List.map_cons, List.map_nil, flow_Doms_eq, box_agg, List.nil_append, List.length_nil, show List.map AV.rv [p, r, v, b] = [.rv p, .rv r, .rv v, .rv b] from rfl, ldg_at (by rfl) (by rfl), callP_ret (by simp [toRV, depthA]) hF (.inr rfl), asInt_i, bsp_of (by simpa using he)]
    simp [pureR, toRV, depthA]
  exact ⟨fun h => key 130 (by omega) ((ssaFlow_spec hd').1 h), fun h q => key 131 (by omega) ((ssaFlow_spec hd').2.2 h q)⟩
theorem flowDoms_spec {cs : List RV} {d : Cd} (hd : IsCd cs d) (hf : formOk d.blocks = true) (hq : FlowOk d.blocks) {P : List Nat} (hP : IsPost d.blocks P) :
    ∃ par x, Done (grOf hf hq hP) par ∧ F_flow_Doms [.agg cs] = some (.ret (.tuple [x, I 0])) ∧ IsInts x (dvs par d.blocks.length) := by
  have hl : 0 < d.blocks.length ∧ d.blocks.length ≤ 4096 := by
    simp only [formOk, Bool.and_eq_true, decide_eq_true_eq] at hf
    exact hf.1
  obtain ⟨y, e1, hy⟩ := ssaPost_spec hd hl (formOk_succs hf) hP
  obtain ⟨par, x, hdone, e2, hx⟩ := Doms_spec hd hf hq hP hy
  refine ⟨par, x, hdone, ?_, hx⟩
  have e0 := (ssaFlow_spec hd).2.1 hf hq
  obtain ⟨p, r, v, b, rfl, _, _, _, hb⟩ := hd
  unfold F_flow_Doms
  rw [List.map_cons, List.map_nil, flow_Doms_eq, box_agg, List.nil_append, List.length_nil, show List.map AV.rv [p, r, v, b] = [.rv p, .rv r, .rv v, .rv b] from rfl, ldg_at (by rfl) (by rfl), callP_ret (by simp [toRV, depthA]) e0 (.inr rfl), asInt_i, bsp_not (by rfl),
    ldg_at (by rfl) (by rfl), ldg_at (by rfl) (by rfl), callP_ret (by simp [toRV, depthA]) e1 (.inl rfl), callP_ret (by simp [toRV, depthA]) e2 (.inl rfl)]
  simp [pureR, toRV, depthA]
end Go.Proofs.Ytknphnmhjmejaaa
/-  A tree's blocks numbered on the way in and out, by a stack: plain. No conditions. -/
namespace Go.Proofs.Ytknphnmhjmejaaa
set_option linter.unusedVariables false
theorem nodup_rev {l : List Nat} (h : l.Nodup) : l.reverse.Nodup := List.pairwise_reverse.2 (h.imp fun h => Ne.symm h)
/-- What stands on the stack: to be entered, or to be left. -/
abbrev Itm := Bool × Nat
def put (f : Nat → Nat) (b n : Nat) : Nat → Nat := fun x => if x = b then n else f x
theorem put_same {f : Nat → Nat} {b n : Nat} : put f b n b = n := by simp [put]
theorem put_ne {f : Nat → Nat} {b n x : Nat} (h : x ≠ b) : put f b n x = f x := by simp [put, h]
inductive TRun (kids : Nat → List Nat) : List Itm → Nat → (Nat → Nat) → (Nat → Nat) → Nat → Nat → (Nat → Nat) → (Nat → Nat) → Prop
  | done (n i o) : TRun kids [] n i o 0 n i o
  | leave {b S n i o m n' i' o'} (r : TRun kids S n i (put o b n) m n' i' o') : TRun kids ((false, b) :: S) n i o (m + 1) n' i' o'
  | enter {b S n i o m n' i' o'} (r : TRun kids ((kids b).reverse.map (fun c => (true, c)) ++ (false, b) :: S) (n + 1) (put i b (n + 1)) o m n' i' o') : TRun kids ((true, b) :: S) n i o (m + 1) n' i' o'
/-- The items are worked off, whatever lies below them. -/
def Big (kids : Nat → List Nat) (l : List Itm) (n : Nat) (i o : Nat → Nat) (k n' : Nat) (i' o' : Nat → Nat) : Prop :=
  ∀ S m n2 i2 o2, TRun kids S n' i' o' m n2 i2 o2 → TRun kids (l ++ S) n i o (k + m) n2 i2 o2
structure Iv (par : Par) (X : Nat → Prop) (n : Nat) (i o : Nat → Nat) (n' : Nat) (i' o' : Nat → Nat) : Prop where
  le : n ≤ n'
  rng : ∀ x, X x → n < i' x ∧ i' x ≤ o' x ∧ o' x ≤ n'
  fi : ∀ x, ¬ X x → i' x = i x
  fo : ∀ x, ¬ X x → o' x = o x
  onto : ∀ j, n < j → j ≤ n' → ∃ x, X x ∧ i' x = j
  anc : ∀ x y, X x → X y → ((i' x ≤ i' y ∧ o' y ≤ o' x) ↔ Anc par y x)
section
variable {par : Par} {kids : Nat → List Nat}
theorem Iv.nil (n : Nat) (i o : Nat → Nat) : Iv par (fun _ => False) n i o n i o :=
  ⟨Nat.le_refl _, fun _ h => h.elim, fun _ _ => rfl, fun _ _ => rfl, fun j h1 h2 => by omega, fun _ _ h => h.elim⟩
theorem Iv.app {X Y : Nat → Prop} {n n1 n2 : Nat} {i o i1 o1 i2 o2 : Nat → Nat} (a : Iv par X n i o n1 i1 o1) (b : Iv par Y n1 i1 o1 n2 i2 o2) (hd : ∀ x, X x → ¬ Y x) (h1 : ∀ x y, X x → Y y → ¬ Anc par y x) (h2 : ∀ x y, X x → Y y → ¬ Anc par x y) :
    Iv par (fun x => X x ∨ Y x) n i o n2 i2 o2 where
  le := Nat.le_trans a.le b.le
  rng x hx := by
    rcases hx with hx | hx
    · have := a.rng x hx
      rw [b.fi x (hd x hx), b.fo x (hd x hx)]
      have := b.le
      omega
    · have := b.rng x hx
      have := a.le
      omega
  fi x hx := by rw [b.fi x fun h => hx (.inr h), a.fi x fun h => hx (.inl h)]
  fo x hx := by rw [b.fo x fun h => hx (.inr h), a.fo x fun h => hx (.inl h)]
  onto j hj1 hj2 := by
    by_cases h : j ≤ n1
    · obtain ⟨x, hx, e⟩ := a.onto j hj1 h
      exact ⟨x, .inl hx, by rw [b.fi x (hd x hx)]; exact e⟩
    · obtain ⟨x, hx, e⟩ := b.onto j (by omega) hj2
      exact ⟨x, .inr hx, e⟩
  anc x y hx hy := by
    rcases hx with hx | hx <;> rcases hy with hy | hy
    · rw [b.fi x (hd x hx), b.fo x (hd x hx), b.fi y (hd y hy), b.fo y (hd y hy)]
      exact a.anc x y hx hy
    · have k1 := a.rng x hx
      have k2 := b.rng y hy
      rw [b.fi x (hd x hx), b.fo x (hd x hx)]
      exact ⟨fun h => by omega, fun h => absurd h (h1 x y hx hy)⟩
    · have k1 := a.rng y hy
      have k2 := b.rng x hx
      rw [b.fi y (hd y hy), b.fo y (hd y hy)]
      exact ⟨fun h => by omega, fun h => absurd h (h2 y x hy hx)⟩
    · exact b.anc x y hx hy
/-- One block is worked off so. -/
def Node (par : Par) (kids : Nat → List Nat) (b : Nat) : Prop :=
  ∀ n i o, ∃ k n' i' o', Big kids [(true, b)] n i o k n' i' o' ∧ Iv par (fun x => Anc par x b) n i o n' i' o' ∧ k = 2 * (n' - n)
theorem nodes : ∀ (L : List Nat), L.Nodup → (∀ c ∈ L, Node par kids c) → (∀ c ∈ L, ∀ c' ∈ L, c ≠ c' → ∀ x, Anc par x c → ¬ Anc par x c') → ∀ n i o, ∃ k n' i' o', Big kids (L.map fun c => (true, c)) n i o k n' i' o' ∧ Iv par (fun x => ∃ c ∈ L, Anc par x c) n i o n' i' o' ∧ k = 2 * (n' - n)
  | [], _, _, _, n, i, o => by
    refine ⟨0, n, i, o, fun S m n2 i2 o2 h => by simpa using h, ⟨Nat.le_refl _, fun x hx => ?_, fun _ _ => rfl, fun _ _ => rfl, fun j h1 h2 => by omega, fun x y hx => ?_⟩, by omega⟩
    · obtain ⟨c, hc, _⟩ := hx; cases hc
    · obtain ⟨c, hc, _⟩ := hx; cases hc
  | c :: L, hnd, hn, hdis, n, i, o => by
    obtain ⟨hc, hnd'⟩ := List.nodup_cons.1 hnd
    obtain ⟨k1, n1, i1, o1, B1, I1, e1⟩ := hn c (by simp) n i o
    obtain ⟨k2, n2, i2, o2, B2, I2, e2⟩ := nodes L hnd' (fun d hd => hn d (by simp [hd])) (fun d hd d' hd' => hdis d (by simp [hd]) d' (by simp [hd'])) n1 i1 o1
    have dis : ∀ x, Anc par x c → ¬ ∃ d ∈ L, Anc par x d := by
      rintro x hx ⟨d, hd, hxd⟩
      exact hdis c (by simp) d (by simp [hd]) (fun e => hc (e ▸ hd)) x hx hxd
    refine ⟨k1 + k2, n2, i2, o2, fun S m n3 i3 o3 h => ?_, ?_, ?_⟩
    · have := B1 _ _ _ _ _ (B2 S m n3 i3 o3 h)
      rw [List.map_cons, List.cons_append]
      rw [List.singleton_append] at this
      rw [Nat.add_assoc]
      exact this
    · have I := I1.app I2 dis (fun x y hx ⟨d, hd, hyd⟩ ha => dis y (ha.trans hx) ⟨d, hd, hyd⟩) (fun x y hx ⟨d, hd, hyd⟩ ha => dis x hx ⟨d, hd, ha.trans hyd⟩)
      have heq : (fun x => Anc par x c ∨ ∃ d ∈ L, Anc par x d) = fun x => ∃ d ∈ c :: L, Anc par x d := by
        funext x
        simp
      rw [heq] at I
      exact I
    · have := I1.le
      have := I2.le
      omega
end
section
variable {G : Gr} {par : Par} {P : List Nat} {n : Nat}
/-- What stands right below a block in the tree, in postorder. -/
def kidsOf (par : Par) (P : List Nat) (y : Nat) : List Nat := P.filter fun b => dv par b == (y : Int)
theorem kids_mem (kd : Done G par) (g : GrP G P n) {b y : Nat} : b ∈ kidsOf par P y ↔ G.N b ∧ b ≠ 0 ∧ par b = some y := by
  rw [kidsOf, List.mem_filter, ← g.mem]
  constructor
  · rintro ⟨hb, he⟩
    have he : dv par b = (y : Int) := by simpa using he
    rcases kd.dv_step hb with ⟨_, e⟩ | ⟨h0, q, hq, e, _⟩
    · rw [e] at he; omega
    · rw [e] at he
      have : q = y := by omega
      exact ⟨hb, h0, this ▸ hq⟩
  · rintro ⟨hb, h0, hp⟩
    refine ⟨hb, ?_⟩
    rw [dv, if_neg h0, dlv_some hp]
    simp
theorem Done.sub (kd : Done G par) (g : GrP G P n) {b : Nat} (hb : G.N b) {x : Nat} : Anc par x b ↔ x = b ∨ ∃ c ∈ kidsOf par P b, Anc par x c := by
  constructor
  · intro h
    induction h with
    | refl => exact .inl rfl
    | @step x y b hp r ih =>
      by_cases hx : x = 0
      · subst hx
        rw [kd.k.root] at hp
        cases hp
        exact ih hb
      · rcases ih hb with rfl | ⟨c, hc, h⟩
        · exact .inr ⟨x, (kids_mem kd g).2 ⟨kd.hN x (by rw [hp]; simp), hx, hp⟩, .refl x⟩
        · exact .inr ⟨c, hc, .step hp h⟩
  · rintro (rfl | ⟨c, hc, h⟩)
    · exact .refl x
    · exact h.trans (.step ((kids_mem kd g).1 hc).2.2 (.refl b))
theorem Done.kid_lt (kd : Done G par) (g : GrP G P n) {b c : Nat} (h : c ∈ kidsOf par P b) : G.N c ∧ G.num c < G.num b := by
  obtain ⟨h1, h2, h3⟩ := (kids_mem kd g).1 h
  exact ⟨h1, (kd.k.up c b h2 h3).2.2.1⟩
theorem Done.kid_apart (kd : Done G par) (g : GrP G P n) {b c c' : Nat} (h : c ∈ kidsOf par P b) (h' : c' ∈ kidsOf par P b) (hne : c ≠ c') {x : Nat} (hx : Anc par x c) : ¬ Anc par x c' := by
  intro hx'
  obtain ⟨h1, h2, h3⟩ := (kids_mem kd g).1 h
  obtain ⟨h1', h2', h3'⟩ := (kids_mem kd g).1 h'
  have l1 := (kd.k.up c b h2 h3).2.2.1
  have l2 := (kd.k.up c' b h2' h3').2.2.1
  rcases hx.linear hx' with k | k
  · have := kd.k.le' (k.next hne h3)
    omega
  · have := kd.k.le' (k.next (fun e => hne e.symm) h3')
    omega
theorem Done.node (kd : Done G par) (g : GrP G P n) : ∀ (w b : Nat), G.num b ≤ w → G.N b → Node par (kidsOf par P) b := by
  intro w
  induction w with
  | zero =>
    intro b hb hN n i o
    have hk : kidsOf par P b = [] := by
      rw [List.eq_nil_iff_forall_not_mem]
      intro c hc
      have := (kd.kid_lt g hc).2
      omega
    have hX : ∀ x, Anc par x b ↔ x = b := fun x => by rw [kd.sub g hN, hk]; simp
    refine ⟨2, n + 1, put i b (n + 1), put o b (n + 1), fun S m n2 i2 o2 h => ?_, ⟨by omega, fun x hx => ?_, fun x hx => ?_, fun x hx => ?_, fun j h1 h2 => ?_, fun x y hx hy => ?_⟩, by omega⟩
    · rw [List.singleton_append, show 2 + m = m + 1 + 1 by omega]
      refine .enter ?_
      rw [hk]
      exact .leave h
    · rw [hX] at hx; subst hx; rw [put_same, put_same]; omega
    · rw [hX] at hx; exact put_ne hx
    · rw [hX] at hx; exact put_ne hx
    · exact ⟨b, .refl b, by rw [put_same]; omega⟩
    · rw [hX] at hx hy
      subst hx; subst hy
      exact ⟨fun _ => .refl _, fun _ => ⟨Nat.le_refl _, Nat.le_refl _⟩⟩
  | succ w ih =>
    intro b hb hN n i o
    have hkid : ∀ c ∈ (kidsOf par P b).reverse, Node par (kidsOf par P) c := fun c hc => by
      have := kd.kid_lt g (List.mem_reverse.1 hc)
      exact ih c (by omega) this.1
    have hnd : (kidsOf par P b).reverse.Nodup := nodup_rev (g.nd.filter _)
    obtain ⟨k, n2, i2, o2, B, I, e⟩ := nodes (kidsOf par P b).reverse hnd hkid (fun c hc c' hc' hne x hx => kd.kid_apart g (List.mem_reverse.1 hc) (List.mem_reverse.1 hc') hne hx) (n + 1) (put i b (n + 1)) o
    have hX : ∀ x, Anc par x b ↔ x = b ∨ ∃ c ∈ (kidsOf par P b).reverse, Anc par x c := fun x => by rw [kd.sub g hN]; simp
    have hbX : ¬ ∃ c ∈ (kidsOf par P b).reverse, Anc par b c := by
      rintro ⟨c, hc, h⟩
      have l1 := (kd.kid_lt g (List.mem_reverse.1 hc)).2
      have := kd.k.le' h
      omega
    have hib : i2 b = n + 1 := by rw [I.fi b hbX, put_same]
    have hle := I.le
    have hXb : ∀ x, (∃ c ∈ (kidsOf par P b).reverse, Anc par x c) → x ≠ b := fun x hx e => hbX (e ▸ hx)
    refine ⟨k + 2, n2, i2, put o2 b n2, fun S m n3 i3 o3 h => ?_, ⟨by omega, fun x hx => ?_, fun x hx => ?_, fun x hx => ?_, fun j h1 h2 => ?_, fun x y hx hy => ?_⟩, by omega⟩
    · rw [List.singleton_append, show k + 2 + m = (k + (m + 1)) + 1 by omega]
      exact .enter (B _ _ _ _ _ (.leave h))
    · rcases (hX x).1 hx with rfl | hx
      · rw [put_same, hib]; omega
      · have := I.rng x hx
        rw [put_ne (hXb x hx)]
        omega
    · rw [hX] at hx
      rw [I.fi x fun h => hx (.inr h), put_ne fun h => hx (.inl h)]
    · rw [hX] at hx
      rw [put_ne fun h => hx (.inl h), I.fo x fun h => hx (.inr h)]
    · by_cases e : j = n + 1
      · exact ⟨b, .refl b, by rw [hib, e]⟩
      · obtain ⟨x, hx, ex⟩ := I.onto j (by omega) h2
        exact ⟨x, (hX x).2 (.inr hx), ex⟩
    · rcases (hX x).1 hx with rfl | hx <;> rcases (hX y).1 hy with rfl | hy
      · exact ⟨fun _ => .refl _, fun _ => ⟨Nat.le_refl _, Nat.le_refl _⟩⟩
      · have := I.rng y hy
        rw [hib, put_same, put_ne (hXb y hy)]
        refine ⟨fun _ => (hX y).2 (.inr hy), fun _ => by omega⟩
      · have := I.rng x hx
        rw [hib]
        refine ⟨fun h => by omega, fun h => ?_⟩
        obtain ⟨c, hc, hxc⟩ := hx
        exact absurd ⟨c, hc, h.trans hxc⟩ hbX
      · rw [put_ne (hXb x hx), put_ne (hXb y hy)]
        exact I.anc x y hx hy
/-- From the first block on: its numbers tell what stands above what. -/
theorem Done.tree (kd : Done G par) (g : GrP G P n) (i o : Nat → Nat) : ∃ m n' i' o', TRun (kidsOf par P) [(true, 0)] 0 i o m n' i' o' ∧ m ≤ 2 * P.length ∧ n' ≤ P.length ∧ (∀ x, G.N x → i' x ≤ n' ∧ o' x ≤ n') ∧
    (∀ x y, G.N x → G.N y → ((i' x ≤ i' y ∧ o' y ≤ o' x) ↔ Anc par y x)) := by
  obtain ⟨k, n', i', o', B, I, e⟩ := kd.node g (G.num 0) 0 (Nat.le_refl _) G.n0 0 i o
  have h0 : ∀ x, G.N x → Anc par x 0 := by
    have key : ∀ w x, P.length - G.num x ≤ w → G.N x → Anc par x 0 := by
      intro w
      induction w with
      | zero =>
        intro x hw hx
        have h1 := g.le0 hx
        have h2 : G.num 0 < P.length := by rw [g.num]; exact List.idxOf_lt_length_iff.2 ((g.mem 0).1 G.n0)
        omega
      | succ w ih =>
        intro x hw hx
        rcases kd.dv_step hx with ⟨rfl, _⟩ | ⟨_, y, hy, _, hN, hlt⟩
        · exact .refl 0
        · exact .step hy (ih y (by omega) hN)
    exact fun x hx => key _ x (Nat.le_refl _) hx
  have hlen : n' ≤ P.length := by
    have hch : ∃ f : Nat → Nat, ∀ j, j < n' → Anc par (f j) 0 ∧ i' (f j) = j + 1 := by
      have : ∀ j, ∃ x, j < n' → Anc par x 0 ∧ i' x = j + 1 := fun j => by
        by_cases h : j < n'
        · obtain ⟨x, h1, h2⟩ := I.onto (j + 1) (by omega) (by omega)
          exact ⟨x, fun _ => ⟨h1, h2⟩⟩
        · exact ⟨0, fun h' => absurd h' h⟩
      exact ⟨fun j => (this j).choose, fun j => (this j).choose_spec⟩
    obtain ⟨f, hf⟩ := hch
    have hnd : ((List.range n').map f).Nodup := by
      rw [List.nodup_iff_pairwise_ne, List.pairwise_map]
      refine List.Pairwise.imp_of_mem ?_ List.nodup_range
      intro a b ha hb hne e
      have h1 := (hf a (List.mem_range.1 ha)).2
      have h2 := (hf b (List.mem_range.1 hb)).2
      rw [e, h2] at h1
      exact hne (by omega)
    have := nodup_sub_le ((List.range n').map f) P hnd (fun y hy => by
      rw [List.mem_map] at hy
      obtain ⟨j, hj, rfl⟩ := hy
      have h1 := (hf j (List.mem_range.1 hj)).1
      rw [← g.mem]
      generalize f j = x at h1
      cases h1 with
      | refl => exact G.n0
      | step hp _ => exact kd.hN _ (by rw [hp]; simp))
    simpa using this
  refine ⟨k, n', i', o', by simpa using B [] 0 _ _ _ (.done _ _ _), by omega, hlen, fun x hx => ?_, fun x y hx hy => I.anc x y (h0 x hx) (h0 y hy)⟩
  have := I.rng x (h0 x hx)
  omega
end
end Go.Proofs.Ytknphnmhjmejaaa
/- The places and the unfolding equations of these functions (printed by gen.py of this repo): no conditions. -/
namespace Go.Proofs.Ytknphnmhjmejaaa
set_option linter.unusedVariables false
set_option maxRecDepth 100000

/-! gantry/gantrylaw13.ups -/
abbrev id_w13_ups : FuncId := 16
noncomputable def w13_ups_G : FuncId → Option Callee := fun f => match f with
  | _ => none
def w13_ups_A : Ann := [(7, []), (52, [0, 3]), (841, [0, 3, 23])]
def w13_ups_R : List Nat := []
noncomputable def w13_ups_c (k pos : Nat) : St → Cont (ARes × Hp) → Option (ARes × Hp) := acode Try.prog w13_ups_G w13_ups_A w13_ups_R k (cdAt (pathOf pos) (bodyOf Try.f16)) pos
def w13_ups_T52 (x0 : AV) (x3 : Int) : List AV := x0 :: an 2 ((.rv (.int .i64 x3)) :: an 20 ([]))
def w13_ups_T841 (x0 : AV) (x3 : Int) (x23 : Bool) : List AV := x0 :: an 2 ((.rv (.int .i64 x3)) :: an 19 ((.rv (.bool x23)) :: []))
def w13_ups_T7  : List AV := an 24 ([])
noncomputable def w13_ups_K0 (k : Nat) : Cont (ARes × Hp) := seqK (w13_ups_c k 7) true (clrA w13_ups_A 7) (finA Try.prog Try.f16)
noncomputable def w13_ups_K1 (k : Nat) : Cont (ARes × Hp) := blkK 0 (w13_ups_K0 k)
noncomputable def w13_ups_K2 (k : Nat) (N52 M52 : Nat) : Cont (ARes × Hp) := itK (aloop (w13_ups_c k 52) (clrA w13_ups_A 52) (trimOf w13_ups_R 52) M52 N52) (clrA w13_ups_A 52) (trimOf w13_ups_R 52) M52 (w13_ups_K1 k)
noncomputable def w13_ups_K3 (k : Nat) (N52 M52 : Nat) : Cont (ARes × Hp) := seqK (w13_ups_c k 211) false (clrA w13_ups_A 211) (w13_ups_K2 k N52 M52)
noncomputable def w13_ups_K4 (k : Nat) (N52 M52 : Nat) : Cont (ARes × Hp) := blkK 1 (w13_ups_K3 k N52 M52)
noncomputable def w13_ups_l52 (k : Nat) (N52 M52 : Nat) (x0 : AV) (x3 : Int) (h : Hp) : Option (ARes × Hp) := aloop (w13_ups_c k 52) (clrA w13_ups_A 52) (trimOf w13_ups_R 52) M52 N52 ⟨w13_ups_T52 x0 x3, h⟩ (w13_ups_K1 k)
noncomputable def w13_ups_p841 (k : Nat) (N52 M52 : Nat) (x0 : AV) (x3 : Int) (x23 : Bool) (h : Hp) : Option (ARes × Hp) := pnt (w13_ups_c k 841) ⟨w13_ups_T841 x0 x3 x23, h⟩ (w13_ups_K4 k N52 M52)
noncomputable def w13_ups_p7 (k : Nat)  (h : Hp) : Option (ARes × Hp) := pnt (w13_ups_c k 7) ⟨w13_ups_T7 , h⟩ (finA Try.prog Try.f16)
theorem w13_ups_l52_eq (k : Nat) (N52 M52 : Nat) (x0 : AV) (x3 : Int) (h : Hp) : w13_ups_l52 k (N52 + 1) M52 x0 x3 h = lna x0 fun n1 => bsp ((decide (x3 < n1))) (ixa 1 x0 x3 fun p2 => ldi .i64 h p2 fun n3 => bsp ((decide (n3 < (-1)))) (w13_ups_p841 k N52 M52 x0 (x3) (true) (h)) (ixa 1 x0 x3 fun p4 => ldi .i64 h p4 fun n5 => lna x0 fun n6 => w13_ups_p841 k N52 M52 x0 (x3) ((decide (n5 ≥ n6))) (h))) (w13_ups_p7 k  (h)) := nrfl (by kernel_rfl)
theorem w13_ups_p841_eq (k : Nat) (N52 M52 : Nat) (x0 : AV) (x3 : Int) (x23 : Bool) (h : Hp) : w13_ups_p841 k N52 M52 x0 x3 x23 h = bsp (x23) (some (.ret (.rv (.bool false)), h)) (w13_ups_l52 k N52 M52 x0 ((wri .i64 (x3 + 1))) (h)) := nrfl (by kernel_rfl)
theorem w13_ups_p7_eq (k : Nat)  (h : Hp) : w13_ups_p7 k  h = some (.ret (.rv (.bool true)), h) := nrfl (by kernel_rfl)
theorem w13_ups_eq (k : Nat) (x0 : AV) (h : Hp) : fnA Try.prog w13_ups_G w13_ups_A w13_ups_R k Try.f16 [x0] h = w13_ups_l52 k k h.length x0 (0) (h) := nrfl (by kernel_rfl)
theorem w13_ups_good : Good Try.prog w13_ups_G := fun f c hc => by cases hc
noncomputable def F_w13_ups : List RV → Option Res := fun rs => pureR (fnA Try.prog w13_ups_G w13_ups_A w13_ups_R big Try.f16 (rs.map .rv) [])
theorem good_w13_ups : GoodC Try.prog 16 (.pure F_w13_ups) := goodP mixed w13_ups_good (by kernel_rfl : Try.prog.funcs[16]? = some Try.f16) rfl rfl (fun rs r h => ⟨big, h⟩)

/-! gantry/gantrylaw13.FlowDominates -/
abbrev id_w13_FlowDominates : FuncId := 4
noncomputable def w13_FlowDominates_G : FuncId → Option Callee := fun f => match f with
  | 7 => some (.pure F_w12_Weight)
  | 9 => some (.pure F_r0_CopyCode)
  | 10 => some (.pure F_w13_num)
  | 11 => some (.pure F_r13_Flow)
  | 12 => some (.pure F_r13_Hole)
  | 14 => some (.pure F_w13_wakes)
  | 15 => some (.pure F_flow_Doms)
  | 16 => some (.pure F_w13_ups)
  | 17 => some (.pure F_r13_Reached)
  | _ => none
def w13_FlowDominates_A : Ann := [(7, []), (52, [0, 3]), (209, [0, 3, 19]), (211, [0, 3]), (6733, [0, 3, 4, 49]), (107772, [0, 3, 4, 6]), (431091, [0, 3, 4, 6]), (27589788, [0, 3, 4, 6, 7, 8]), (110359155, [0, 3, 4, 6, 7, 8]), (1765746471, [0, 3, 4, 6, 7, 8, 9, 10]), (3531492943, [0, 3, 4, 6, 7, 8, 144]), (14125971764, [0, 3, 4, 6, 7, 8, 9, 10, 11]), (56503887057, [0, 3, 4, 6, 7, 8, 9, 10, 11, 108]), (226015548233, [0, 3, 4, 6, 7, 8, 9, 10, 11])]
def w13_FlowDominates_R : List Nat := []
noncomputable def w13_FlowDominates_c (k pos : Nat) : St → Cont (ARes × Hp) → Option (ARes × Hp) := acode Try.prog w13_FlowDominates_G w13_FlowDominates_A w13_FlowDominates_R k (cdAt (pathOf pos) (bodyOf Try.f4)) pos
def w13_FlowDominates_T52 (x0 : AV) (x3 : Int) : List AV := x0 :: an 2 ((.rv (.int .i64 x3)) :: an 142 ([]))
def w13_FlowDominates_T209 (x0 : AV) (x3 : Int) (x19 : Bool) : List AV := x0 :: an 2 ((.rv (.int .i64 x3)) :: an 15 ((.rv (.bool x19)) :: an 126 ([])))
def w13_FlowDominates_T6733 (x0 : AV) (x3 : Int) (x4 : AV) (x49 : Bool) : List AV := x0 :: an 2 ((.rv (.int .i64 x3)) :: x4 :: an 44 ((.rv (.bool x49)) :: an 96 ([])))
def w13_FlowDominates_T7  : List AV := an 146 ([])
def w13_FlowDominates_T211 (x0 : AV) (x3 : Int) : List AV := x0 :: an 2 ((.rv (.int .i64 x3)) :: an 142 ([]))
def w13_FlowDominates_T107772 (x0 : AV) (x3 : Int) (x4 : AV) (x6 : Int) : List AV := x0 :: an 2 ((.rv (.int .i64 x3)) :: x4 :: an 1 ((.rv (.int .i64 x6)) :: an 139 ([])))
def w13_FlowDominates_T431091 (x0 : AV) (x3 : Int) (x4 : AV) (x6 : Int) : List AV := x0 :: an 2 ((.rv (.int .i64 x3)) :: x4 :: an 1 ((.rv (.int .i64 x6)) :: an 139 ([])))
def w13_FlowDominates_T27589788 (x0 : AV) (x3 : Int) (x4 : AV) (x6 : Int) (x7 : AV) (x8 : Int) : List AV := x0 :: an 2 ((.rv (.int .i64 x3)) :: x4 :: an 1 ((.rv (.int .i64 x6)) :: x7 :: (.rv (.int .i64 x8)) :: an 137 ([])))
def w13_FlowDominates_T14125971764 (x0 : AV) (x3 : Int) (x4 : AV) (x6 : Int) (x7 : AV) (x8 : Int) (x9 : Bool) (x10 : Int) (x11 : Int) : List AV := x0 :: an 2 ((.rv (.int .i64 x3)) :: x4 :: an 1 ((.rv (.int .i64 x6)) :: x7 :: (.rv (.int .i64 x8)) :: (.rv (.bool x9)) :: (.rv (.int .i64 x10)) :: (.rv (.int .i64 x11)) :: an 134 ([])))
def w13_FlowDominates_T56503887057 (x0 : AV) (x3 : Int) (x4 : AV) (x6 : Int) (x7 : AV) (x8 : Int) (x9 : Bool) (x10 : Int) (x11 : Int) (x108 : Bool) : List AV := x0 :: an 2 ((.rv (.int .i64 x3)) :: x4 :: an 1 ((.rv (.int .i64 x6)) :: x7 :: (.rv (.int .i64 x8)) :: (.rv (.bool x9)) :: (.rv (.int .i64 x10)) :: (.rv (.int .i64 x11)) :: an 96 ((.rv (.bool x108)) :: an 37 ([]))))
def w13_FlowDominates_T226015548233 (x0 : AV) (x3 : Int) (x4 : AV) (x6 : Int) (x7 : AV) (x8 : Int) (x9 : Bool) (x10 : Int) (x11 : Int) : List AV := x0 :: an 2 ((.rv (.int .i64 x3)) :: x4 :: an 1 ((.rv (.int .i64 x6)) :: x7 :: (.rv (.int .i64 x8)) :: (.rv (.bool x9)) :: (.rv (.int .i64 x10)) :: (.rv (.int .i64 x11)) :: an 134 ([])))
def w13_FlowDominates_T1765746471 (x0 : AV) (x3 : Int) (x4 : AV) (x6 : Int) (x7 : AV) (x8 : Int) (x9 : Bool) (x10 : Int) : List AV := x0 :: an 2 ((.rv (.int .i64 x3)) :: x4 :: an 1 ((.rv (.int .i64 x6)) :: x7 :: (.rv (.int .i64 x8)) :: (.rv (.bool x9)) :: (.rv (.int .i64 x10)) :: an 135 ([])))
def w13_FlowDominates_T3531492943 (x0 : AV) (x3 : Int) (x4 : AV) (x6 : Int) (x7 : AV) (x8 : Int) (x144 : Bool) : List AV := x0 :: an 2 ((.rv (.int .i64 x3)) :: x4 :: an 1 ((.rv (.int .i64 x6)) :: x7 :: (.rv (.int .i64 x8)) :: an 135 ((.rv (.bool x144)) :: an 1 ([]))))
def w13_FlowDominates_T110359155 (x0 : AV) (x3 : Int) (x4 : AV) (x6 : Int) (x7 : AV) (x8 : Int) : List AV := x0 :: an 2 ((.rv (.int .i64 x3)) :: x4 :: an 1 ((.rv (.int .i64 x6)) :: x7 :: (.rv (.int .i64 x8)) :: an 137 ([])))
noncomputable def w13_FlowDominates_K0 (k : Nat) : Cont (ARes × Hp) := seqK (w13_FlowDominates_c k 7) true (clrA w13_FlowDominates_A 7) (finA Try.prog Try.f4)
noncomputable def w13_FlowDominates_K1 (k : Nat) : Cont (ARes × Hp) := blkK 0 (w13_FlowDominates_K0 k)
noncomputable def w13_FlowDominates_K2 (k : Nat) (N52 M52 : Nat) : Cont (ARes × Hp) := itK (aloop (w13_FlowDominates_c k 52) (clrA w13_FlowDominates_A 52) (trimOf w13_FlowDominates_R 52) M52 N52) (clrA w13_FlowDominates_A 52) (trimOf w13_FlowDominates_R 52) M52 (w13_FlowDominates_K1 k)
noncomputable def w13_FlowDominates_K3 (k : Nat) (N52 M52 : Nat) : Cont (ARes × Hp) := seqK (w13_FlowDominates_c k 105) false (clrA w13_FlowDominates_A 105) (w13_FlowDominates_K2 k N52 M52)
noncomputable def w13_FlowDominates_K4 (k : Nat) (N52 M52 : Nat) : Cont (ARes × Hp) := seqK (w13_FlowDominates_c k 211) true (clrA w13_FlowDominates_A 211) (w13_FlowDominates_K2 k N52 M52)
noncomputable def w13_FlowDominates_K5 (k : Nat) (N52 M52 : Nat) : Cont (ARes × Hp) := blkK 1 (w13_FlowDominates_K4 k N52 M52)
noncomputable def w13_FlowDominates_K6 (k : Nat) (N52 M52 : Nat) : Cont (ARes × Hp) := seqK (w13_FlowDominates_c k 3367) false (clrA w13_FlowDominates_A 3367) (w13_FlowDominates_K5 k N52 M52)
noncomputable def w13_FlowDominates_K7 (k : Nat) (N52 M52 : Nat) : Cont (ARes × Hp) := blkK 2 (w13_FlowDominates_K5 k N52 M52)
noncomputable def w13_FlowDominates_K8 (k : Nat) (N52 M52 : Nat) (N107772 M107772 : Nat) : Cont (ARes × Hp) := itK (aloop (w13_FlowDominates_c k 107772) (clrA w13_FlowDominates_A 107772) (trimOf w13_FlowDominates_R 107772) M107772 N107772) (clrA w13_FlowDominates_A 107772) (trimOf w13_FlowDominates_R 107772) M107772 (w13_FlowDominates_K7 k N52 M52)
noncomputable def w13_FlowDominates_K9 (k : Nat) (N52 M52 : Nat) (N107772 M107772 : Nat) : Cont (ARes × Hp) := seqK (w13_FlowDominates_c k 431091) true (clrA w13_FlowDominates_A 431091) (w13_FlowDominates_K8 k N52 M52 N107772 M107772)
noncomputable def w13_FlowDominates_K10 (k : Nat) (N52 M52 : Nat) (N107772 M107772 : Nat) : Cont (ARes × Hp) := blkK 3 (w13_FlowDominates_K9 k N52 M52 N107772 M107772)
noncomputable def w13_FlowDominates_K11 (k : Nat) (N52 M52 : Nat) (N107772 M107772 : Nat) : Cont (ARes × Hp) := blkK 4 (w13_FlowDominates_K10 k N52 M52 N107772 M107772)
noncomputable def w13_FlowDominates_K12 (k : Nat) (N52 M52 : Nat) (N107772 M107772 : Nat) (N27589788 M27589788 : Nat) : Cont (ARes × Hp) := itK (aloop (w13_FlowDominates_c k 27589788) (clrA w13_FlowDominates_A 27589788) (trimOf w13_FlowDominates_R 27589788) M27589788 N27589788) (clrA w13_FlowDominates_A 27589788) (trimOf w13_FlowDominates_R 27589788) M27589788 (w13_FlowDominates_K11 k N52 M52 N107772 M107772)
noncomputable def w13_FlowDominates_K13 (k : Nat) (N52 M52 : Nat) (N107772 M107772 : Nat) (N27589788 M27589788 : Nat) : Cont (ARes × Hp) := seqK (w13_FlowDominates_c k 110359155) true (clrA w13_FlowDominates_A 110359155) (w13_FlowDominates_K12 k N52 M52 N107772 M107772 N27589788 M27589788)
noncomputable def w13_FlowDominates_K14 (k : Nat) (N52 M52 : Nat) (N107772 M107772 : Nat) (N27589788 M27589788 : Nat) : Cont (ARes × Hp) := blkK 5 (w13_FlowDominates_K13 k N52 M52 N107772 M107772 N27589788 M27589788)
noncomputable def w13_FlowDominates_K15 (k : Nat) (N52 M52 : Nat) (N107772 M107772 : Nat) (N27589788 M27589788 : Nat) : Cont (ARes × Hp) := seqK (w13_FlowDominates_c k 1765746471) true (clrA w13_FlowDominates_A 1765746471) (w13_FlowDominates_K14 k N52 M52 N107772 M107772 N27589788 M27589788)
noncomputable def w13_FlowDominates_K16 (k : Nat) (N52 M52 : Nat) (N107772 M107772 : Nat) (N27589788 M27589788 : Nat) : Cont (ARes × Hp) := blkK 6 (w13_FlowDominates_K15 k N52 M52 N107772 M107772 N27589788 M27589788)
noncomputable def w13_FlowDominates_K17 (k : Nat) (N52 M52 : Nat) (N107772 M107772 : Nat) (N27589788 M27589788 : Nat) (N14125971764 M14125971764 : Nat) : Cont (ARes × Hp) := itK (aloop (w13_FlowDominates_c k 14125971764) (clrA w13_FlowDominates_A 14125971764) (trimOf w13_FlowDominates_R 14125971764) M14125971764 N14125971764) (clrA w13_FlowDominates_A 14125971764) (trimOf w13_FlowDominates_R 14125971764) M14125971764 (w13_FlowDominates_K16 k N52 M52 N107772 M107772 N27589788 M27589788)
noncomputable def w13_FlowDominates_K18 (k : Nat) (N52 M52 : Nat) (N107772 M107772 : Nat) (N27589788 M27589788 : Nat) (N14125971764 M14125971764 : Nat) : Cont (ARes × Hp) := seqK (w13_FlowDominates_c k 28251943529) false (clrA w13_FlowDominates_A 28251943529) (w13_FlowDominates_K17 k N52 M52 N107772 M107772 N27589788 M27589788 N14125971764 M14125971764)
noncomputable def w13_FlowDominates_K19 (k : Nat) (N52 M52 : Nat) (N107772 M107772 : Nat) (N27589788 M27589788 : Nat) (N14125971764 M14125971764 : Nat) : Cont (ARes × Hp) := seqK (w13_FlowDominates_c k 56503887059) false (clrA w13_FlowDominates_A 56503887059) (w13_FlowDominates_K17 k N52 M52 N107772 M107772 N27589788 M27589788 N14125971764 M14125971764)
noncomputable def w13_FlowDominates_K20 (k : Nat) (N52 M52 : Nat) (N107772 M107772 : Nat) (N27589788 M27589788 : Nat) (N14125971764 M14125971764 : Nat) : Cont (ARes × Hp) := blkK 7 (w13_FlowDominates_K19 k N52 M52 N107772 M107772 N27589788 M27589788 N14125971764 M14125971764)
noncomputable def w13_FlowDominates_l52 (k : Nat) (N52 M52 : Nat) (x0 : AV) (x3 : Int) (h : Hp) : Option (ARes × Hp) := aloop (w13_FlowDominates_c k 52) (clrA w13_FlowDominates_A 52) (trimOf w13_FlowDominates_R 52) M52 N52 ⟨w13_FlowDominates_T52 x0 x3, h⟩ (w13_FlowDominates_K1 k)
noncomputable def w13_FlowDominates_p209 (k : Nat) (N52 M52 : Nat) (x0 : AV) (x3 : Int) (x19 : Bool) (h : Hp) : Option (ARes × Hp) := pnt (w13_FlowDominates_c k 209) ⟨w13_FlowDominates_T209 x0 x3 x19, h⟩ (w13_FlowDominates_K3 k N52 M52)
noncomputable def w13_FlowDominates_p6733 (k : Nat) (N52 M52 : Nat) (x0 : AV) (x3 : Int) (x4 : AV) (x49 : Bool) (h : Hp) : Option (ARes × Hp) := pnt (w13_FlowDominates_c k 6733) ⟨w13_FlowDominates_T6733 x0 x3 x4 x49, h⟩ (w13_FlowDominates_K6 k N52 M52)
noncomputable def w13_FlowDominates_p7 (k : Nat)  (h : Hp) : Option (ARes × Hp) := pnt (w13_FlowDominates_c k 7) ⟨w13_FlowDominates_T7 , h⟩ (finA Try.prog Try.f4)
noncomputable def w13_FlowDominates_p211 (k : Nat) (N52 M52 : Nat) (x0 : AV) (x3 : Int) (h : Hp) : Option (ARes × Hp) := pnt (w13_FlowDominates_c k 211) ⟨w13_FlowDominates_T211 x0 x3, h⟩ (w13_FlowDominates_K2 k N52 M52)
noncomputable def w13_FlowDominates_l107772 (k : Nat) (N52 M52 : Nat) (N107772 M107772 : Nat) (x0 : AV) (x3 : Int) (x4 : AV) (x6 : Int) (h : Hp) : Option (ARes × Hp) := aloop (w13_FlowDominates_c k 107772) (clrA w13_FlowDominates_A 107772) (trimOf w13_FlowDominates_R 107772) M107772 N107772 ⟨w13_FlowDominates_T107772 x0 x3 x4 x6, h⟩ (w13_FlowDominates_K7 k N52 M52)
noncomputable def w13_FlowDominates_p431091 (k : Nat) (N52 M52 : Nat) (N107772 M107772 : Nat) (x0 : AV) (x3 : Int) (x4 : AV) (x6 : Int) (h : Hp) : Option (ARes × Hp) := pnt (w13_FlowDominates_c k 431091) ⟨w13_FlowDominates_T431091 x0 x3 x4 x6, h⟩ (w13_FlowDominates_K8 k N52 M52 N107772 M107772)
noncomputable def w13_FlowDominates_l27589788 (k : Nat) (N52 M52 : Nat) (N107772 M107772 : Nat) (N27589788 M27589788 : Nat) (x0 : AV) (x3 : Int) (x4 : AV) (x6 : Int) (x7 : AV) (x8 : Int) (h : Hp) : Option (ARes × Hp) := aloop (w13_FlowDominates_c k 27589788) (clrA w13_FlowDominates_A 27589788) (trimOf w13_FlowDominates_R 27589788) M27589788 N27589788 ⟨w13_FlowDominates_T27589788 x0 x3 x4 x6 x7 x8, h⟩ (w13_FlowDominates_K11 k N52 M52 N107772 M107772)
noncomputable def w13_FlowDominates_l14125971764 (k : Nat) (N52 M52 : Nat) (N107772 M107772 : Nat) (N27589788 M27589788 : Nat) (N14125971764 M14125971764 : Nat) (x0 : AV) (x3 : Int) (x4 : AV) (x6 : Int) (x7 : AV) (x8 : Int) (x9 : Bool) (x10 : Int) (x11 : Int) (h : Hp) : Option (ARes × Hp) := aloop (w13_FlowDominates_c k 14125971764) (clrA w13_FlowDominates_A 14125971764) (trimOf w13_FlowDominates_R 14125971764) M14125971764 N14125971764 ⟨w13_FlowDominates_T14125971764 x0 x3 x4 x6 x7 x8 x9 x10 x11, h⟩ (w13_FlowDominates_K16 k N52 M52 N107772 M107772 N27589788 M27589788)
noncomputable def w13_FlowDominates_p56503887057 (k : Nat) (N52 M52 : Nat) (N107772 M107772 : Nat) (N27589788 M27589788 : Nat) (N14125971764 M14125971764 : Nat) (x0 : AV) (x3 : Int) (x4 : AV) (x6 : Int) (x7 : AV) (x8 : Int) (x9 : Bool) (x10 : Int) (x11 : Int) (x108 : Bool) (h : Hp) : Option (ARes × Hp) := pnt (w13_FlowDominates_c k 56503887057) ⟨w13_FlowDominates_T56503887057 x0 x3 x4 x6 x7 x8 x9 x10 x11 x108, h⟩ (w13_FlowDominates_K18 k N52 M52 N107772 M107772 N27589788 M27589788 N14125971764 M14125971764)
noncomputable def w13_FlowDominates_p226015548233 (k : Nat) (N52 M52 : Nat) (N107772 M107772 : Nat) (N27589788 M27589788 : Nat) (N14125971764 M14125971764 : Nat) (x0 : AV) (x3 : Int) (x4 : AV) (x6 : Int) (x7 : AV) (x8 : Int) (x9 : Bool) (x10 : Int) (x11 : Int) (h : Hp) : Option (ARes × Hp) := pnt (w13_FlowDominates_c k 226015548233) ⟨w13_FlowDominates_T226015548233 x0 x3 x4 x6 x7 x8 x9 x10 x11, h⟩ (w13_FlowDominates_K20 k N52 M52 N107772 M107772 N27589788 M27589788 N14125971764 M14125971764)
noncomputable def w13_FlowDominates_p1765746471 (k : Nat) (N52 M52 : Nat) (N107772 M107772 : Nat) (N27589788 M27589788 : Nat) (x0 : AV) (x3 : Int) (x4 : AV) (x6 : Int) (x7 : AV) (x8 : Int) (x9 : Bool) (x10 : Int) (h : Hp) : Option (ARes × Hp) := pnt (w13_FlowDominates_c k 1765746471) ⟨w13_FlowDominates_T1765746471 x0 x3 x4 x6 x7 x8 x9 x10, h⟩ (w13_FlowDominates_K14 k N52 M52 N107772 M107772 N27589788 M27589788)
noncomputable def w13_FlowDominates_p3531492943 (k : Nat) (N52 M52 : Nat) (N107772 M107772 : Nat) (N27589788 M27589788 : Nat) (x0 : AV) (x3 : Int) (x4 : AV) (x6 : Int) (x7 : AV) (x8 : Int) (x144 : Bool) (h : Hp) : Option (ARes × Hp) := pnt (w13_FlowDominates_c k 3531492943) ⟨w13_FlowDominates_T3531492943 x0 x3 x4 x6 x7 x8 x144, h⟩ (w13_FlowDominates_K14 k N52 M52 N107772 M107772 N27589788 M27589788)
noncomputable def w13_FlowDominates_p110359155 (k : Nat) (N52 M52 : Nat) (N107772 M107772 : Nat) (N27589788 M27589788 : Nat) (x0 : AV) (x3 : Int) (x4 : AV) (x6 : Int) (x7 : AV) (x8 : Int) (h : Hp) : Option (ARes × Hp) := pnt (w13_FlowDominates_c k 110359155) ⟨w13_FlowDominates_T110359155 x0 x3 x4 x6 x7 x8, h⟩ (w13_FlowDominates_K12 k N52 M52 N107772 M107772 N27589788 M27589788)
theorem w13_FlowDominates_l52_eq (k : Nat) (N52 M52 : Nat) (x0 : AV) (x3 : Int) (h : Hp) : w13_FlowDominates_l52 k (N52 + 1) M52 x0 x3 h = lna x0 fun n1 => bsp ((decide (x3 < n1))) (w13_FlowDominates_p209 k N52 M52 x0 (x3) ((decide (x3 < 10))) (h)) (w13_FlowDominates_p209 k N52 M52 x0 (x3) (false) (h)) := nrfl (by kernel_rfl)
theorem w13_FlowDominates_p209_eq (k : Nat) (N52 M52 : Nat) (x0 : AV) (x3 : Int) (x19 : Bool) (h : Hp) : w13_FlowDominates_p209 k N52 M52 x0 x3 x19 h = bsp (x19) (ixa 4 x0 x3 fun p2 => ldg 4 h p2 fun v3 => bsl 4 1 [(.rv .nils), (.rv .nils), (.rv .nils), (.rv .nils)] [(some (0, 4), v3)] h fun v4 h5 => bld [(.rv .nils), (.rv .nils)] [(some (0, 1), v4)] fun v6 => callP F_w12_Weight h5 [v6, (.rv (.int .i64 2000))] (fun r7 => asInt .i64 r7 fun n9 => bsp ((decide (n9 > 2000))) (some (.ret (.rv (.bool true)), h5)) (ixa 4 x0 x3 fun p10 => ldg 4 h5 p10 fun v11 => callP F_r0_CopyCode h5 [v11] (fun r12 => callP F_flow_Doms h5 [r12] (fun r14 => xtr r14 0 fun v16 => xtr r14 1 fun v17 => asInt .i64 v17 fun n18 => callP F_w13_num h5 [(.rv (.int .i64 n18))] (fun r19 => asInt .i64 r19 fun n21 => bsp ((n21 != 0)) (w13_FlowDominates_p6733 k N52 M52 x0 (x3) v16 (true) (h5)) (ixa 4 x0 x3 fun p22 => ldg 4 h5 p22 fun v23 => callP F_r13_Flow h5 [v23] (fun r24 => asInt .i64 r24 fun n26 => w13_FlowDominates_p6733 k N52 M52 x0 (x3) v16 ((n26 != 0)) (h5)) (fun q25 => some (.pan q25, h5)))) (fun q20 => some (.pan q20, h5))) (fun q15 => some (.pan q15, h5))) (fun q13 => some (.pan q13, h5)))) (fun q8 => some (.pan q8, h5))) (w13_FlowDominates_p7 k  (h)) := nrfl (by kernel_rfl)
theorem w13_FlowDominates_p6733_eq (k : Nat) (N52 M52 : Nat) (x0 : AV) (x3 : Int) (x4 : AV) (x49 : Bool) (h : Hp) : w13_FlowDominates_p6733 k N52 M52 x0 x3 x4 x49 h = bsp (x49) (w13_FlowDominates_p211 k N52 M52 x0 (x3) (h)) (lna x4 fun n27 => ixa 4 x0 x3 fun p28 => pad p28 3 fun p29 => ldv h p29 fun v30 => lna v30 fun n31 => bsp ((n27 != n31)) (some (.ret (.rv (.bool false)), h)) (callP F_w13_ups h [x4] (fun r32 => asBool r32 fun b34 => bsp ((!b34)) (some (.ret (.rv (.bool false)), h)) (w13_FlowDominates_l107772 k N52 M52 k h.length x0 (x3) x4 (0) (h))) (fun q33 => some (.pan q33, h)))) := nrfl (by kernel_rfl)
theorem w13_FlowDominates_p7_eq (k : Nat)  (h : Hp) : w13_FlowDominates_p7 k  h = callP F_w13_wakes h [] (fun r35 => asBool r35 fun b37 => some (.ret (.rv (.bool b37)), h)) (fun q36 => some (.pan q36, h)) := nrfl (by kernel_rfl)
theorem w13_FlowDominates_p211_eq (k : Nat) (N52 M52 : Nat) (x0 : AV) (x3 : Int) (h : Hp) : w13_FlowDominates_p211 k N52 M52 x0 x3 h = w13_FlowDominates_l52 k N52 M52 x0 ((wri .i64 (x3 + 1))) (h) := nrfl (by kernel_rfl)
theorem w13_FlowDominates_l107772_eq (k : Nat) (N52 M52 : Nat) (N107772 M107772 : Nat) (x0 : AV) (x3 : Int) (x4 : AV) (x6 : Int) (h : Hp) : w13_FlowDominates_l107772 k N52 M52 (N107772 + 1) M107772 x0 x3 x4 x6 h = lna x4 fun n38 => bsp ((decide (x6 < n38))) (ixa 4 x0 x3 fun p39 => pad p39 3 fun p40 => ldv h p40 fun v41 => ixa 6 v41 x6 fun p42 => ldg 6 h p42 fun v43 => callP F_r13_Hole h [v43] (fun r44 => asBool r44 fun b46 => bsp (b46) (ixa 1 x4 x6 fun p47 => ldi .i64 h p47 fun n48 => bsp ((n48 != (-1))) (some (.ret (.rv (.bool false)), h)) (w13_FlowDominates_p431091 k N52 M52 N107772 M107772 x0 (x3) x4 (x6) (h))) (ixa 4 x0 x3 fun p49 => ldg 4 h p49 fun v50 => callP F_r13_Reached h [v50, (.rv (.int .i64 x6))] (fun r51 => w13_FlowDominates_l27589788 k N52 M52 N107772 M107772 k h.length x0 (x3) x4 (x6) r51 (0) (h)) (fun q52 => some (.pan q52, h)))) (fun q45 => some (.pan q45, h))) (w13_FlowDominates_p211 k N52 M52 x0 (x3) (h)) := nrfl (by kernel_rfl)
theorem w13_FlowDominates_p431091_eq (k : Nat) (N52 M52 : Nat) (N107772 M107772 : Nat) (x0 : AV) (x3 : Int) (x4 : AV) (x6 : Int) (h : Hp) : w13_FlowDominates_p431091 k N52 M52 N107772 M107772 x0 x3 x4 x6 h = w13_FlowDominates_l107772 k N52 M52 N107772 M107772 x0 (x3) x4 ((wri .i64 (x6 + 1))) (h) := nrfl (by kernel_rfl)
theorem w13_FlowDominates_l27589788_eq (k : Nat) (N52 M52 : Nat) (N107772 M107772 : Nat) (N27589788 M27589788 : Nat) (x0 : AV) (x3 : Int) (x4 : AV) (x6 : Int) (x7 : AV) (x8 : Int) (h : Hp) : w13_FlowDominates_l27589788 k N52 M52 N107772 M107772 (N27589788 + 1) M27589788 x0 x3 x4 x6 x7 x8 h = lna x4 fun n53 => bsp ((decide (x8 < n53))) (w13_FlowDominates_l14125971764 k N52 M52 N107772 M107772 N27589788 M27589788 k h.length x0 (x3) x4 (x6) x7 (x8) (false) (0) (x8) (h)) (w13_FlowDominates_p431091 k N52 M52 N107772 M107772 x0 (x3) x4 (x6) (h)) := nrfl (by kernel_rfl)
theorem w13_FlowDominates_l14125971764_eq (k : Nat) (N52 M52 : Nat) (N107772 M107772 : Nat) (N27589788 M27589788 : Nat) (N14125971764 M14125971764 : Nat) (x0 : AV) (x3 : Int) (x4 : AV) (x6 : Int) (x7 : AV) (x8 : Int) (x9 : Bool) (x10 : Int) (x11 : Int) (h : Hp) : w13_FlowDominates_l14125971764 k N52 M52 N107772 M107772 N27589788 M27589788 (N14125971764 + 1) M14125971764 x0 x3 x4 x6 x7 x8 x9 x10 x11 h = bsp ((decide (x11 ≥ 0))) (lna x4 fun n54 => bsp ((decide (x11 < n54))) (lna x4 fun n55 => w13_FlowDominates_p56503887057 k N52 M52 N107772 M107772 N27589788 M27589788 N14125971764 M14125971764 x0 (x3) x4 (x6) x7 (x8) (x9) (x10) (x11) ((decide (x10 ≤ n55))) (h)) (w13_FlowDominates_p56503887057 k N52 M52 N107772 M107772 N27589788 M27589788 N14125971764 M14125971764 x0 (x3) x4 (x6) x7 (x8) (x9) (x10) (x11) (false) (h))) (w13_FlowDominates_p56503887057 k N52 M52 N107772 M107772 N27589788 M27589788 N14125971764 M14125971764 x0 (x3) x4 (x6) x7 (x8) (x9) (x10) (x11) (false) (h)) := nrfl (by kernel_rfl)
theorem w13_FlowDominates_p56503887057_eq (k : Nat) (N52 M52 : Nat) (N107772 M107772 : Nat) (N27589788 M27589788 : Nat) (N14125971764 M14125971764 : Nat) (x0 : AV) (x3 : Int) (x4 : AV) (x6 : Int) (x7 : AV) (x8 : Int) (x9 : Bool) (x10 : Int) (x11 : Int) (x108 : Bool) (h : Hp) : w13_FlowDominates_p56503887057 k N52 M52 N107772 M107772 N27589788 M27589788 N14125971764 M14125971764 x0 x3 x4 x6 x7 x8 x9 x10 x11 x108 h = bsp (x108) (bsp (x9) (w13_FlowDominates_p226015548233 k N52 M52 N107772 M107772 N27589788 M27589788 N14125971764 M14125971764 x0 (x3) x4 (x6) x7 (x8) (true) (x10) (x11) (h)) (w13_FlowDominates_p226015548233 k N52 M52 N107772 M107772 N27589788 M27589788 N14125971764 M14125971764 x0 (x3) x4 (x6) x7 (x8) ((x11 == x6)) (x10) (x11) (h))) (w13_FlowDominates_p1765746471 k N52 M52 N107772 M107772 N27589788 M27589788 x0 (x3) x4 (x6) x7 (x8) (x9) (x10) (h)) := nrfl (by kernel_rfl)
theorem w13_FlowDominates_p226015548233_eq (k : Nat) (N52 M52 : Nat) (N107772 M107772 : Nat) (N27589788 M27589788 : Nat) (N14125971764 M14125971764 : Nat) (x0 : AV) (x3 : Int) (x4 : AV) (x6 : Int) (x7 : AV) (x8 : Int) (x9 : Bool) (x10 : Int) (x11 : Int) (h : Hp) : w13_FlowDominates_p226015548233 k N52 M52 N107772 M107772 N27589788 M27589788 N14125971764 M14125971764 x0 x3 x4 x6 x7 x8 x9 x10 x11 h = ixa 1 x4 x11 fun p56 => ldi .i64 h p56 fun n57 => w13_FlowDominates_l14125971764 k N52 M52 N107772 M107772 N27589788 M27589788 N14125971764 M14125971764 x0 (x3) x4 (x6) x7 (x8) (x9) ((wri .i64 (x10 + 1))) (n57) (h) := nrfl (by kernel_rfl)
theorem w13_FlowDominates_p1765746471_eq (k : Nat) (N52 M52 : Nat) (N107772 M107772 : Nat) (N27589788 M27589788 : Nat) (x0 : AV) (x3 : Int) (x4 : AV) (x6 : Int) (x7 : AV) (x8 : Int) (x9 : Bool) (x10 : Int) (h : Hp) : w13_FlowDominates_p1765746471 k N52 M52 N107772 M107772 N27589788 M27589788 x0 x3 x4 x6 x7 x8 x9 x10 h = lna x4 fun n58 => bsp ((decide (x10 > n58))) (w13_FlowDominates_p3531492943 k N52 M52 N107772 M107772 N27589788 M27589788 x0 (x3) x4 (x6) x7 (x8) (true) (h)) (ixa 4 x0 x3 fun p59 => pad p59 3 fun p60 => ldv h p60 fun v61 => ixa 6 v61 x8 fun p62 => ldg 6 h p62 fun v63 => callP F_r13_Hole h [v63] (fun r64 => asBool r64 fun b66 => bsp ((!b66)) (ixa 1 x7 x8 fun p67 => ldb h p67 fun b68 => w13_FlowDominates_p3531492943 k N52 M52 N107772 M107772 N27589788 M27589788 x0 (x3) x4 (x6) x7 (x8) ((x9 == b68)) (h)) (w13_FlowDominates_p3531492943 k N52 M52 N107772 M107772 N27589788 M27589788 x0 (x3) x4 (x6) x7 (x8) (false) (h))) (fun q65 => some (.pan q65, h))) := nrfl (by kernel_rfl)
theorem w13_FlowDominates_p3531492943_eq (k : Nat) (N52 M52 : Nat) (N107772 M107772 : Nat) (N27589788 M27589788 : Nat) (x0 : AV) (x3 : Int) (x4 : AV) (x6 : Int) (x7 : AV) (x8 : Int) (x144 : Bool) (h : Hp) : w13_FlowDominates_p3531492943 k N52 M52 N107772 M107772 N27589788 M27589788 x0 x3 x4 x6 x7 x8 x144 h = bsp (x144) (some (.ret (.rv (.bool false)), h)) (w13_FlowDominates_p110359155 k N52 M52 N107772 M107772 N27589788 M27589788 x0 (x3) x4 (x6) x7 (x8) (h)) := nrfl (by kernel_rfl)
theorem w13_FlowDominates_p110359155_eq (k : Nat) (N52 M52 : Nat) (N107772 M107772 : Nat) (N27589788 M27589788 : Nat) (x0 : AV) (x3 : Int) (x4 : AV) (x6 : Int) (x7 : AV) (x8 : Int) (h : Hp) : w13_FlowDominates_p110359155 k N52 M52 N107772 M107772 N27589788 M27589788 x0 x3 x4 x6 x7 x8 h = w13_FlowDominates_l27589788 k N52 M52 N107772 M107772 N27589788 M27589788 x0 (x3) x4 (x6) x7 ((wri .i64 (x8 + 1))) (h) := nrfl (by kernel_rfl)
theorem w13_FlowDominates_eq (k : Nat) (x0 : AV) (h : Hp) : fnA Try.prog w13_FlowDominates_G w13_FlowDominates_A w13_FlowDominates_R k Try.f4 [x0] h = w13_FlowDominates_l52 k k h.length x0 (0) (h) := nrfl (by kernel_rfl)
theorem w13_FlowDominates_good : Good Try.prog w13_FlowDominates_G := by
  intro f c hc
  unfold w13_FlowDominates_G at hc
  split at hc
  · cases hc; exact good_w12_Weight
  · cases hc; exact good_r0_CopyCode
  · cases hc; exact good_w13_num
  · cases hc; exact good_r13_Flow
  · cases hc; exact good_r13_Hole
  · cases hc; exact good_w13_wakes
  · cases hc; exact good_flow_Doms
  · cases hc; exact good_w13_ups
  · cases hc; exact good_r13_Reached
  · cases hc
noncomputable def F_w13_FlowDominates : List RV → Option Res := fun rs => pureR (fnA Try.prog w13_FlowDominates_G w13_FlowDominates_A w13_FlowDominates_R big Try.f4 (rs.map .rv) [])
theorem good_w13_FlowDominates : GoodC Try.prog 4 (.pure F_w13_FlowDominates) := goodP mixed w13_FlowDominates_good (by kernel_rfl : Try.prog.funcs[4]? = some Try.f4) rfl rfl (fun rs r h => ⟨big, h⟩)
end Go.Proofs.Ytknphnmhjmejaaa
/-  What the law FlowDominates tells: true, whatever the list of codes. No conditions. -/
namespace Go.Proofs.Ytknphnmhjmejaaa
set_option linter.unusedVariables false
theorem ups_loop {x : RV} {xs : List Int} (hx : IsInts x xs) (hu : ∀ y ∈ xs, (-1 : Int) ≤ y ∧ y < (xs.length : Int)) (k M : Nat) (h : Hp) : ∀ (m i N : Nat), i + m = xs.length → m < N → w13_ups_l52 k N M (.rv x) i h = some (.ret (ab true), h) := by
  have hs := hx.short
  intro m
  induction m with
  | zero =>
    intro i N hi hN
    obtain ⟨N, rfl⟩ : ∃ q, N = q + 1 := ⟨N - 1, by omega⟩
    rw [w13_ups_l52_eq, hx.len, bsp_not (decide_eq_false (by omega)), w13_ups_p7_eq]
  | succ m ih =>
    intro i N hi hN
    obtain ⟨N, rfl⟩ : ∃ q, N = q + 1 := ⟨N - 1, by omega⟩
    have hil : i < xs.length := by omega
    obtain ⟨h1, h2⟩ := hu _ (List.getElem_mem hil)
    rw [w13_ups_l52_eq, hx.len, bsp_of (decide_eq_true (by omega)), hx.at hil, bsp_not (decide_eq_false (by omega)), hx.at hil, hx.len, w13_ups_p841_eq, bsp_not (decide_eq_false (by omega)), wri_succ (by omega)]
    exact ih (i + 1) N (by omega) (by omega)
theorem ups_spec {x : RV} {xs : List Int} (hx : IsInts x xs) (hu : ∀ y ∈ xs, (-1 : Int) ≤ y ∧ y < (xs.length : Int)) : F_w13_ups [x] = some (.ret (.bool true)) := by
  have hs := hx.short
  unfold F_w13_ups
  rw [List.map_cons, List.map_nil, w13_ups_eq, show ((0 : Int)) = ((0 : Nat) : Int) from rfl, ups_loop hx hu big _ _ xs.length 0 big (by omega) (by rw [big_val]; omega)]
  simp [pureR, toRV, depthA]
theorem IsBools.at {R : Type} {x : RV} {bs : List Bool} (k : IsBools x bs) {h : Hp} {i : Nat} {q : Bool} (hi : bs[i]? = some q) (K : Bool → Option R) : (ixa 1 (.rv x) i fun p => ldb h p K) = K q := by
  have hl := (List.getElem?_eq_some_iff.1 hi).1
  subst k
  have : ((i : Int) < bs.length) := by omega
  have h2 : (bs.map RV.bool)[i]? = some (.bool q) := by rw [List.getElem?_map, hi]; rfl
  simp [ixa, ldb, ldv, cellAt, asBool0, this, h2]
section
variable {X : RV} {ds : List Cd} {x sb : RV} {P : List Nat} {i n : Nat} {G : Gr} {par : Par}
theorem FD_end (hx : IsInts x (dvs par n)) (T : Prop) (k N M N1 M1 N2 M2 N3 M3 b j : Nat) (a : Bool) (c : Nat) (h : Hp) (hN : 0 < N3)
    (out : TR (w13_FlowDominates_p1765746471 k N M N1 M1 N2 M2 (.rv X) i (.rv x) b (.rv sb) j a c h)) : TR (w13_FlowDominates_l14125971764 k N M N1 M1 N2 M2 N3 M3 (.rv X) i (.rv x) b (.rv sb) j a c (-1) h) := by
  obtain ⟨N3, rfl⟩ : ∃ q, N3 = q + 1 := ⟨N3 - 1, by omega⟩
  rw [w13_FlowDominates_l14125971764_eq, bsp_not (by rfl), w13_FlowDominates_p56503887057_eq, bsp_not (by rfl)]
  exact out
theorem FD_turn (hx : IsInts x (dvs par n)) (hn : n ≤ 4096) (k N M N1 M1 N2 M2 N3 M3 b j : Nat) (a : Bool) (c y : Nat) (h : Hp) (hy : y < n) (hc : c ≤ n)
    (out : TR (w13_FlowDominates_l14125971764 k N M N1 M1 N2 M2 N3 M3 (.rv X) i (.rv x) b (.rv sb) j (a || decide (y = b)) ((c + 1 : Nat) : Int) (dv par y) h)) : TR (w13_FlowDominates_l14125971764 k N M N1 M1 N2 M2 (N3 + 1) M3 (.rv X) i (.rv x) b (.rv sb) j a c y h) := by
  have hlen := dvs_len par n
  have hyl : y < (dvs par n).length := by omega
  have rest : TR (w13_FlowDominates_p226015548233 k N M N1 M1 N2 M2 N3 M3 (.rv X) i (.rv x) b (.rv sb) j (a || decide (y = b)) c y h) := by
    rw [w13_FlowDominates_p226015548233_eq, hx.at hyl, dvs_get, wri_succ (by omega)]
    exact out
  rw [w13_FlowDominates_l14125971764_eq, bsp_of (decide_eq_true (by omega)), hx.len, hlen, bsp_of (decide_eq_true (by omega)), hx.len, hlen, w13_FlowDominates_p56503887057_eq, bsp_of (decide_eq_true (by omega))]
  cases a with
  | true =>
    rw [bsp_of rfl]
    simpa using rest
  | false =>
    rw [bsp_not rfl]
    have : ((y : Int) == (b : Int)) = decide (y = b) := by
      by_cases e : y = b
      · simp [e]
      · have : ¬ (y : Int) = b := by omega
        simp [e, this]
    rw [this]
    simpa using rest
theorem FD_chain (kd : Done G par) (g : GrP G P n) (h0m : G.num 0 + 1 = P.length) (hx : IsInts x (dvs par n)) (hP : P.length ≤ n) (hn : n ≤ 4096) (T : Prop) (k N M N1 M1 N2 M2 M3 b j : Nat)
    (outer : ∀ (a : Bool) (c : Nat) (h : Hp), c ≤ n → (a = true ↔ T) → TR (w13_FlowDominates_p1765746471 k N M N1 M1 N2 M2 (.rv X) i (.rv x) b (.rv sb) j a c h)) :
    ∀ (m y N3 c : Nat) (a : Bool) (h : Hp), G.N y → P.length - G.num y ≤ m → m < N3 → c + (P.length - G.num y) ≤ n → ((a = true ∨ Anc par y b) ↔ T) →
      TR (w13_FlowDominates_l14125971764 k N M N1 M1 N2 M2 N3 M3 (.rv X) i (.rv x) b (.rv sb) j a c y h) := by
  intro m
  induction m with
  | zero =>
    intro y N3 c a h hy hm
    have := g.le0 hy
    omega
  | succ m ih =>
    intro y N3 c a h hy hm hN hc hT
    obtain ⟨N3, rfl⟩ : ∃ q, N3 = q + 1 := ⟨N3 - 1, by omega⟩
    have hle := g.le0 hy
    have hyn := g.lt y ((g.mem y).1 hy)
    refine FD_turn hx hn k N M N1 M1 N2 M2 N3 M3 b j a c y h hyn (by omega) ?_
    rcases kd.dv_step hy with ⟨rfl, e⟩ | ⟨h0, y', hp, e, hy', hlt⟩
    · rw [e]
      refine FD_end hx T k N M N1 M1 N2 M2 N3 M3 b j _ (c + 1) h (by omega) (outer _ (c + 1) h (by omega) ?_)
      rw [← hT, kd.anc0, Bool.or_eq_true, decide_eq_true_eq, eq_comm (a := (0 : Nat))]
    · rw [e]
      refine ih y' N3 (c + 1) _ h hy' (by omega) (by omega) (by omega) ?_
      rw [← hT, anc_step hp, Bool.or_eq_true, decide_eq_true_eq, or_assoc]
theorem FD_ks (hX : IsRows 4 IsCd X ds) (hi : i < ds.length) (hf : formOk ds[i].blocks = true) (hq : FlowOk ds[i].blocks) (hP : IsPost ds[i].blocks P) (kd : Done (grOf hf hq hP) par) (hx : IsInts x (dvs par ds[i].blocks.length)) (k N M N1 M1 M2 b : Nat) (hk : 1000000000 < k)
    (hb0 : b ∈ P) {seen : List Bool} (hsb : IsBools sb seen) (hsl : seen.length = ds[i].blocks.length) (hseen : ∀ j : Nat, seen[j]? = some true ↔ (b : Int) ≠ 0 ∧ Rch ds[i].blocks (b : Int) 0 j)
    (outer : ∀ h, TR (w13_FlowDominates_p431091 k N M N1 M1 (.rv X) i (.rv x) b h)) :
    ∀ (m j N2 : Nat) (h : Hp), j + m = ds[i].blocks.length → m < N2 → TR (w13_FlowDominates_l27589788 k N M N1 M1 N2 M2 (.rv X) i (.rv x) b (.rv sb) j h) := by
  have hok := formOk_succs hf
  have hl : 0 < ds[i].blocks.length ∧ ds[i].blocks.length ≤ 4096 := by
    simp only [formOk, Bool.and_eq_true, decide_eq_true_eq] at hf
    exact hf.1
  obtain ⟨hnd, hlt, hple⟩ := hP.facts hok hl.1
  have g := grP hf hq hP
  have h0m := post_num0 hf hq hP
  obtain ⟨p, r, v, bb, rest, hcd, hb, hix⟩ := cd_read hX hi
  intro m
  induction m with
  | zero =>
    intro j N2 h hj hN
    obtain ⟨N2, rfl⟩ : ∃ q, N2 = q + 1 := ⟨N2 - 1, by omega⟩
    rw [w13_FlowDominates_l27589788_eq, hx.len, dvs_len, bsp_not (decide_eq_false (by omega))]
    exact outer h
  | succ m ih =>
    intro j N2 h hj hN
    obtain ⟨N2, rfl⟩ : ∃ q, N2 = q + 1 := ⟨N2 - 1, by omega⟩
    have hjl : j < ds[i].blocks.length := by omega
    obtain ⟨a, q, s, t, rest', k1, k2, k3, k4, hbx⟩ := blk_at (R := ARes × Hp) hb hjl
    have hbk : IsBlk [I ds[i].blocks[j].kind, I ds[i].blocks[j].n, a, q, s, t] ds[i].blocks[j] := ⟨a, q, s, t, rfl, k1, k2, k3, k4⟩
    have next : ∀ h, TR (w13_FlowDominates_p3531492943 k N M N1 M1 N2 M2 (.rv X) i (.rv x) b (.rv sb) j false h) := by
      intro h
      rw [w13_FlowDominates_p3531492943_eq, bsp_not rfl, w13_FlowDominates_p110359155_eq, wri_succ (by omega)]
      exact ih (j + 1) N2 h (by omega) (by omega)
    have judge : ∀ (a' : Bool) (c : Nat) (h : Hp), c ≤ ds[i].blocks.length → (j ∈ P → (a' = true ↔ Anc par j b)) → TR (w13_FlowDominates_p1765746471 k N M N1 M1 N2 M2 (.rv X) i (.rv x) b (.rv sb) j a' c h) := by
      intro a' c h hc hT
      rw [w13_FlowDominates_p1765746471_eq, hx.len, dvs_len, bsp_not (decide_eq_false (by omega)), hix, pad_rop3, ldv_rop, hbx, ldg6, callP_ret (by simp [toRV, depthA]) (Hole_spec hbk) (.inr rfl), asBool_b]
      by_cases h0 : ds[i].blocks[j].kind = 0
      · rw [bsp_not (by simp [h0])]
        exact next h
      · have hjP : j ∈ P := (post_kind hf hq hP (List.getElem?_eq_getElem hjl)).2 h0
        obtain ⟨w, hw⟩ : ∃ w, seen[j]? = some w := ⟨_, List.getElem?_eq_getElem (by rw [hsl]; exact hjl)⟩
        have hav : w = true ↔ (grOf hf hq hP).Av b j := by
          rw [av_rch hf hq hP hjP]
          have := hseen j
          rw [hw] at this
          simpa using this
        have hne : (a' == w) = false := by
          have h1 := hT hjP
          have h2 := kd.exact (b := j) (d := b) hjP
          rw [beq_eq_false_iff_ne]
          rintro rfl
          cases a' with
          | true => exact h2.1 (h1.1 rfl) (hav.1 rfl)
          | false => exact Bool.noConfusion (h1.2 (h2.2 fun hh => Bool.noConfusion (hav.2 hh)))
        rw [bsp_of (by simpa using h0), hsb.at hw, hne]
        exact next h
    rw [w13_FlowDominates_l27589788_eq, hx.len, dvs_len, bsp_of (decide_eq_true (by omega))]
    by_cases hjP : j ∈ P
    · have hnum : (grOf hf hq hP).num j = P.idxOf j := g.num j
      exact FD_chain kd g h0m hx hple hl.2 (Anc par j b) k N M N1 M1 N2 M2 _ b j (fun a' c h hc hT => judge a' c h hc fun _ => hT) P.length j k 0 false h hjP (by omega) (by omega) (by omega) (by simp)
    · obtain ⟨k', rfl⟩ : ∃ q, k = q + 1 := ⟨k - 1, by omega⟩
      have := FD_turn (X := X) (i := i) (sb := sb) hx hl.2 (k' + 1) N M N1 M1 N2 M2 k' h.length b j false 0 j h hjl (by omega)
        (by
          rw [kd.dv_hole hjP]
          exact FD_end hx True (k' + 1) N M N1 M1 N2 M2 k' h.length b j _ 1 h (by omega) (judge _ 1 h (by omega) fun h2 => absurd h2 hjP))
      exact this
theorem FD_bs (hX : IsRows 4 IsCd X ds) (hi : i < ds.length) (hf : formOk ds[i].blocks = true) (hq : FlowOk ds[i].blocks) (hP : IsPost ds[i].blocks P) (kd : Done (grOf hf hq hP) par) (hx : IsInts x (dvs par ds[i].blocks.length)) (k N M M1 : Nat) (hk : 1000000000 < k)
    (outer : ∀ h, TR (w13_FlowDominates_p211 k N M (.rv X) i h)) :
    ∀ (m b N1 : Nat) (h : Hp), b + m = ds[i].blocks.length → m < N1 → TR (w13_FlowDominates_l107772 k N M N1 M1 (.rv X) i (.rv x) b h) := by
  have hok := formOk_succs hf
  have hl : 0 < ds[i].blocks.length ∧ ds[i].blocks.length ≤ 4096 := by
    simp only [formOk, Bool.and_eq_true, decide_eq_true_eq] at hf
    exact hf.1
  obtain ⟨p, r, v, bb, rest, hcd, hb, hix⟩ := cd_read hX hi
  intro m
  induction m with
  | zero =>
    intro b N1 h hj hN
    obtain ⟨N1, rfl⟩ : ∃ q, N1 = q + 1 := ⟨N1 - 1, by omega⟩
    rw [w13_FlowDominates_l107772_eq, hx.len, dvs_len, bsp_not (decide_eq_false (by omega))]
    exact outer h
  | succ m ih =>
    intro b N1 h hj hN
    obtain ⟨N1, rfl⟩ : ∃ q, N1 = q + 1 := ⟨N1 - 1, by omega⟩
    have hbl : b < ds[i].blocks.length := by omega
    have hlen := dvs_len par ds[i].blocks.length
    obtain ⟨a, q, s, t, rest', k1, k2, k3, k4, hbx⟩ := blk_at (R := ARes × Hp) hb hbl
    have hbk : IsBlk [I ds[i].blocks[b].kind, I ds[i].blocks[b].n, a, q, s, t] ds[i].blocks[b] := ⟨a, q, s, t, rfl, k1, k2, k3, k4⟩
    have hkind := post_kind hf hq hP (List.getElem?_eq_getElem hbl)
    have next : ∀ h, TR (w13_FlowDominates_p431091 k N M N1 M1 (.rv X) i (.rv x) b h) := by
      intro h
      rw [w13_FlowDominates_p431091_eq, wri_succ (by omega)]
      exact ih (b + 1) N1 h (by omega) (by omega)
    rw [w13_FlowDominates_l107772_eq, hx.len, dvs_len, bsp_of (decide_eq_true (by omega)), hix, pad_rop3, ldv_rop, hbx, ldg6, callP_ret (by simp [toRV, depthA]) (Hole_spec hbk) (.inr rfl), asBool_b]
    by_cases h0 : ds[i].blocks[b].kind = 0
    · have hbP : ¬ b ∈ P := fun h2 => hkind.1 h2 h0
      have hbd : b < (dvs par ds[i].blocks.length).length := by omega
      rw [bsp_of (by simpa using h0), hx.at hbd, dvs_get, kd.dv_hole hbP, bsp_not (by rfl)]
      exact next h
    · obtain ⟨sb, seen, e, hsb, hsl, hseen⟩ := Reached_spec hcd hf (b : Int)
      rw [bsp_not (by simpa using h0), hix, ldg4, callP_ret (by simp [toRV, depthA]) e (.inl rfl)]
      exact FD_ks hX hi hf hq hP kd hx k N M N1 M1 _ b hk (hkind.2 h0) hsb hsl hseen next ds[i].blocks.length 0 k h (by omega) (by omega)
theorem FD_outer (hX : IsRows 4 IsCd X ds) (k M : Nat) (hk : 1000000000 < k) : ∀ (m i N : Nat) (h : Hp), i + m = ds.length → m < N → TR (w13_FlowDominates_l52 k N M (.rv X) i h) := by
  have hs := hX.short
  have fin : ∀ i N h, TR (w13_FlowDominates_p209 k N M (.rv X) i false h) := by
    intro i N h
    rw [w13_FlowDominates_p209_eq, bsp_not rfl, w13_FlowDominates_p7_eq, callP_ret (by rfl) wakes_spec (.inr rfl), asBool_b]
    exact ⟨h, rfl⟩
  intro m
  induction m with
  | zero =>
    intro i N h hi hN
    obtain ⟨N, rfl⟩ : ∃ q, N = q + 1 := ⟨N - 1, by omega⟩
    rw [w13_FlowDominates_l52_eq, hX.len, bsp_not (decide_eq_false (by omega))]
    exact fin i N h
  | succ m ih =>
    intro i N h hi hN
    obtain ⟨N, rfl⟩ : ∃ q, N = q + 1 := ⟨N - 1, by omega⟩
    have hil : i < ds.length := by omega
    rw [w13_FlowDominates_l52_eq, hX.len, bsp_of (decide_eq_true (by omega))]
    by_cases h10 : i < 10
    · rw [decide_eq_true (by omega : (i : Int) < 10)]
      obtain ⟨p, r, v, b, rest, hcd, hb, hix⟩ := cd_read hX hil
      have next : ∀ h, TR (w13_FlowDominates_p211 k N M (.rv X) i h) := by
        intro h
        rw [w13_FlowDominates_p211_eq, wri_succ (by omega)]
        exact ih (i + 1) N h (by omega) (by omega)
      have hone := hcd
      obtain ⟨p, r, v, b, e, c1, c2, c3, c4⟩ := hone
      cases e
      have e1 : ∀ K : AV → Hp → Option (ARes × Hp), bsl 4 1 [.rv .nils, .rv .nils, .rv .nils, .rv .nils] [(some (0, 4), .agg [.rv p, .rv r, .rv v, .rv b])] h K = K (.sl h.length 0 0 1) (h ++ [⟨0, 4, [.rv p, .rv r, .rv v, .rv b]⟩]) := fun K => rfl
      have e2 : ∀ (y : AV) (K : AV → Option (ARes × Hp)), vcells y = some [y] → bld [.rv .nils, .rv .nils] [(some (0, 1), y)] K = K (.agg [y, .rv .nils]) := by
        intro y K hy
        simp [bld, fillA, hy, setAt]
      have hu : IsUt [.ros [p, r, v, b] 1, .nils] ⟨[ds[i]], 0⟩ := ⟨_, _, rfl, .mk (n := 4) (Q := IsCd) (l := [ds[i]]) (.cons (c := [p, r, v, b]) rfl hcd .nil) (by simp), .inl ⟨rfl, rfl⟩⟩
      obtain ⟨w, hw⟩ := Weight_spec hu 2000
      have hr : [AV.agg [.sl h.length 0 0 1, .rv .nils], .rv (.int .i64 2000)].mapM (toRV (h ++ [⟨0, 4, [.rv p, .rv r, .rv v, .rv b]⟩]) depthA) = some [.agg [.ros [p, r, v, b] 1, .nils], I 2000] := by
        simp [depthA, toRV]
      rw [w13_FlowDominates_p209_eq, bsp_of rfl, hix, ldg4, e1, e2 _ _ rfl, callP_ret hr hw (.inr rfl), asInt_i]
      by_cases hbig : w > 2000
      · rw [bsp_of (decide_eq_true hbig)]
        exact ⟨_, rfl⟩
      · obtain ⟨cs', hc, hcd'⟩ := CopyCode_spec hcd
        rw [bsp_not (decide_eq_false hbig), hix, ldg4, callP_ret (by simp [toRV, depthA]) hc (.inl rfl)]
        have key : ∀ (x : RV) (e : Int), F_flow_Doms [.agg cs'] = some (.ret (.tuple [x, I e])) → ∀ h', (callP F_flow_Doms h' [.rv (.agg cs')] (fun r14 => xtr r14 0 fun v16 => xtr r14 1 fun v17 => asInt .i64 v17 fun n18 => callP F_w13_num h' [(.rv (.int .i64 n18))] (fun r19 => asInt .i64 r19 fun n21 => bsp ((n21 != 0)) (w13_FlowDominates_p6733 k N M (.rv X) i v16 (true) (h')) (ixa 4 (.rv X) i fun p22 => ldg 4 h' p22 fun v23 => callP F_r13_Flow h' [v23] (fun r24 => asInt .i64 r24 fun n26 => w13_FlowDominates_p6733 k N M (.rv X) i v16 ((n26 != 0)) (h')) (fun q25 => some (.pan q25, h')))) (fun q20 => some (.pan q20, h'))) (fun q15 => some (.pan q15, h'))) =
            bsp (e != 0) (w13_FlowDominates_p6733 k N M (.rv X) i (.rv x) (true) (h')) (ixa 4 (.rv X) i fun p22 => ldg 4 h' p22 fun v23 => callP F_r13_Flow h' [v23] (fun r24 => asInt .i64 r24 fun n26 => w13_FlowDominates_p6733 k N M (.rv X) i (.rv x) ((n26 != 0)) (h')) (fun q25 => some (.pan q25, h'))) := by
          intro x e hF h'
          have h4 : ∀ (K : AV → Option (ARes × Hp)), xtr (.rv (.tuple [x, I e])) 0 K = K (.rv x) := fun K => rfl
          have h5 : ∀ (K : AV → Option (ARes × Hp)), xtr (.rv (.tuple [x, I e])) 1 K = K (.rv (I e)) := fun K => rfl
          rw [callP_ret (by simp [toRV, depthA]) hF (.inl rfl), h4, h5, asInt_i, callP_ret (by simp [toRV, depthA]) (num_spec e) (.inr rfl), asInt_i]
        have skip : ∀ (x : AV) h, TR (w13_FlowDominates_p6733 k N M (.rv X) i x true h) := by
          intro x h
          rw [w13_FlowDominates_p6733_eq, bsp_of rfl]
          exact next h
        by_cases hf : formOk ds[i].blocks = true
        · by_cases hq : FlowOk ds[i].blocks
          · have hl : 0 < ds[i].blocks.length ∧ ds[i].blocks.length ≤ 4096 := by
              simp only [formOk, Bool.and_eq_true, decide_eq_true_eq] at hf
              exact hf.1
            obtain ⟨P, hP⟩ := IsPost.ex (formOk_succs hf) hl.1
            obtain ⟨par, x, kd, e, hx⟩ := flowDoms_spec hcd' hf hq hP
            rw [key x 0 e, bsp_not (by rfl), hix, ldg4, callP_ret (by simp [toRV, depthA]) ((Flow_spec hcd).2.1 hf hq) (.inr rfl), asInt_i, w13_FlowDominates_p6733_eq, bsp_not (by rfl), hx.len, dvs_len, hix, pad_rop3, ldv_rop, hb.len, bsp_not (by simp), callP_ret (by simp [toRV, depthA]) (ups_spec hx (kd.ups (grP hf hq hP))) (.inr rfl), asBool_b, bsp_not (by rfl)]
            exact FD_bs hX hil hf hq hP kd hx k N M _ hk next ds[i].blocks.length 0 k _ (by omega) (by omega)
          · rw [key .nils 131 ((flowDoms_bad hcd').2 hf hq), bsp_of (by rfl)]
            exact skip _ _
        · rw [key .nils 130 ((flowDoms_bad hcd').1 (by simpa using hf)), bsp_of (by rfl)]
          exact skip _ _
    · rw [decide_eq_false (by omega : ¬ (i : Int) < 10)]
      exact fin i N h
end
theorem FlowDominates_spec {X : RV} {ds : List Cd} (hX : IsRows 4 IsCd X ds) : F_w13_FlowDominates [X] = some (.ret (.bool true)) := by
  have hs := hX.short
  obtain ⟨h, e⟩ := FD_outer hX big ([] : Hp).length (by rw [big_val]; omega) ds.length 0 big [] (by omega) (by rw [big_val]; omega)
  unfold F_w13_FlowDominates
  rw [List.map_cons, List.map_nil, w13_FlowDominates_eq, show ((0 : Int)) = ((0 : Nat) : Int) from rfl, e]
  simp [pureR, toRV, depthA]
end Go.Proofs.Ytknphnmhjmejaaa
