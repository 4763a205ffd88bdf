/-  The walk of immediate dominators: what the list of them says. No conditions. -/
import Derived.Test.YtknphnmhjmejaaaDg
namespace Go.Proofs.Ytknphnmhjmejaaa
set_option linter.unusedVariables false
theorem av_rch {bs : List Blk} {P : List Nat} (hf : formOk bs = true) (hq : FlowOk bs) (hP : IsPost bs P) {b k : Nat} (hk : k ∈ P) : (grOf hf hq hP).Av b k ↔ b ≠ 0 ∧ Rch bs (b : Int) 0 k := by
  have hl : 0 < bs.length := by
    simp only [formOk, Bool.and_eq_true, decide_eq_true_eq] at hf
    exact hf.1.1
  have hlt := (hP.facts (formOk_succs hf) hl).2.1
  constructor
  · intro h
    induction h with
    | root h0 => exact ⟨fun e => h0 e.symm, .start⟩
    | @step p x r hp hN hd ih =>
      have hpN : p ∈ P := (grOf hf hq hP).pin x hN p hp
      have hpl := hlt p hpN
      obtain ⟨h0, hr⟩ := ih hpN
      refine ⟨h0, .step hr (List.getElem?_eq_getElem hpl) ((sucs_mem hf hpl).1 ((prd_sucs hf hq hpl (hlt x hN)).2 hp)) (by omega)⟩
  · rintro ⟨h0, hr⟩
    have key : ∀ x, Rch bs (b : Int) 0 x → x ∈ P ∧ (grOf hf hq hP).Av b x := by
      intro x hx
      induction hx with
      | start => exact ⟨(grOf hf hq hP).n0, .root (fun e => h0 e.symm)⟩
      | @step a x c r hb hn hw ih =>
        obtain ⟨haP, hav⟩ := ih
        have hal := hlt a haP
        have e : c = bs[a] := by rw [List.getElem?_eq_getElem hal] at hb; exact (Option.some.inj hb).symm
        subst e
        have hs : x ∈ sucs bs a := (sucs_mem hf hal).2 hn
        have hxP : x ∈ P := (hP.mem x).2 (.step ((hP.mem a).1 haP) hs)
        exact ⟨hxP, .step hav ((prd_sucs hf hq hal (hlt x hxP)).1 hs) hxP (by omega)⟩
    exact (key k hr).2
/-- The list's words: of the first block -1. -/
def dv (par : Par) (x : Nat) : Int := if x = 0 then -1 else dlv par x
def dvs (par : Par) (n : Nat) : List Int := (dl par n).set 0 (-1)
theorem dvs_len (par : Par) (n : Nat) : (dvs par n).length = n := by rw [dvs, List.length_set, dl_len]
theorem dvs_at {par : Par} {n x : Nat} (hx : x < n) : (dvs par n)[x]? = some (dv par x) := by
  rw [dvs, List.getElem?_set, dv]
  by_cases e : x = 0
  · subst e
    simp [dl_len, hx]
  · rw [if_neg (fun h => e h.symm), dl_at hx, if_neg e]
section
variable {G : Gr} {par : Par}
theorem Done.dv_step (k : Done G par) {x : Nat} (hx : G.N x) : (x = 0 ∧ dv par x = -1) ∨ (x ≠ 0 ∧ ∃ y : Nat, par x = some y ∧ dv par x = (y : Int) ∧ G.N y ∧ G.num x < G.num y) := by
  by_cases e : x = 0
  · exact .inl ⟨e, by simp [dv, e]⟩
  · obtain ⟨y, hy⟩ := Option.ne_none_iff_exists'.1 (k.all x hx)
    obtain ⟨_, h2, h3, _⟩ := k.k.up x y e hy
    exact .inr ⟨e, y, hy, by rw [dv, if_neg e, dlv_some hy], h2, h3⟩
theorem Done.dv_hole (k : Done G par) {x : Nat} (hx : ¬ G.N x) : dv par x = -1 := by
  have : par x = none := by
    cases e : par x with
    | none => rfl
    | some y => exact absurd (k.hN x (by rw [e]; simp)) hx
  have h0 : x ≠ 0 := by rintro rfl; exact hx G.n0
  rw [dv, if_neg h0]
  simp [dlv, this]
theorem Done.anc0 (k : Done G par) {b : Nat} : Anc par 0 b ↔ b = 0 := ⟨fun h => k.k.nz h rfl, fun e => by rw [e]; exact .refl 0⟩
theorem anc_step {x y b : Nat} (hp : par x = some y) : Anc par x b ↔ x = b ∨ Anc par y b := by
  constructor
  · intro h
    by_cases e : x = b
    · exact .inl e
    · exact .inr (h.next e hp)
  · rintro (rfl | h)
    · exact .refl _
    · exact .step hp h
end
theorem post_num0 {bs : List Blk} {P : List Nat} (hf : formOk bs = true) (hq : FlowOk bs) (hP : IsPost bs P) : (grOf hf hq hP).num 0 + 1 = P.length := by
  have g := grP hf hq hP
  obtain ⟨P0, e⟩ := hP.last
  have h2 : P0.length < P.length := by rw [e]; simp
  have h3 := List.Nodup.idxOf_getElem g.nd _ h2
  have h4 : P[P0.length] = 0 := by simp [e]
  rw [h4] at h3
  rw [g.num, h3, e]
  simp
theorem dvs_get {par : Par} {n y : Nat} (h : y < (dvs par n).length) : (dvs par n)[y] = dv par y := by
  have hy : y < n := by rwa [dvs_len] at h
  have := dvs_at (par := par) hy
  rw [List.getElem?_eq_getElem h] at this
  exact Option.some.inj this
theorem Done.ups {G : Gr} {par : Par} (k : Done G par) {P : List Nat} {n : Nat} (g : GrP G P n) : ∀ y ∈ dvs par n, (-1 : Int) ≤ y ∧ y < ((dvs par n).length : Int) := by
  intro y hy
  obtain ⟨i, hi, rfl⟩ := List.getElem_of_mem hy
  rw [dvs_get hi]
  rw [dvs_len] at hi ⊢
  by_cases hN : G.N i
  · rcases k.dv_step hN with ⟨_, e⟩ | ⟨_, q, _, e, hq, _⟩
    · rw [e]; omega
    · rw [e]
      have := g.lt q ((g.mem q).1 hq)
      omega
  · rw [k.dv_hole hN]; omega
theorem Done.exact {G : Gr} {par : Par} (k : Done G par) {b d : Nat} (hN : G.N b) : Anc par b d ↔ ¬ G.Av d b := k.k.exact k.all k.fix hN
theorem ssaPost_spec {cs : List RV} {d : Cd} {P : List Nat} (hd : IsCd cs d) (hl : 0 < d.blocks.length ∧ d.blocks.length ≤ 4096) (hok : okSuccs d.blocks) (hP : IsPost d.blocks P) :
    ∃ x, F_ssa_Post [.agg cs] = some (.ret x) ∧ IsInts x (P.map Int.ofNat) := by
  obtain ⟨x, e, hx⟩ := reached_spec hd hl hok hP
  refine ⟨x, ?_, hx⟩
  obtain ⟨p, r, v, b, rfl, _, _, _, hb⟩ := hd
  unfold F_ssa_Post
  rw [List.map_cons, List.map_nil, ssa_Post_eq, box_agg, List.nil_append, List.length_nil, show List.map AV.rv [p, r, v, b] = [.rv p, .rv r, .rv v, .rv b] from rfl, ldg_at (by rfl) (by rfl), callP_ret (by simp [toRV, depthA]) e (.inl rfl)]
  simp [pureR, toRV, depthA]
theorem flowDoms_bad {cs : List RV} {d : Cd} (hd : IsCd cs d) : (formOk d.blocks = false → F_flow_Doms [.agg cs] = some (.ret (.tuple [.nils, I 130]))) ∧ (formOk d.blocks = true → ¬ FlowOk d.blocks → F_flow_Doms [.agg cs] = some (.ret (.tuple [.nils, I 131]))) := by
  have hd' := hd
  obtain ⟨p, r, v, b, rfl, _, _, _, hb⟩ := hd
  have key : ∀ e : Int, e ≠ 0 → F_ssa_Flow [.agg [p, r, v, b]] = some (.ret (I e)) → F_flow_Doms [.agg [p, r, v, b]] = some (.ret (.tuple [.nils, I e])) := by
    intro e he hF
    unfold F_flow_Doms
    rw [List.map_cons, List.map_nil, flow_Doms_eq, box_agg, List.nil_append, List.length_nil, show List.map AV.rv [p, r, v, b] = [.rv p, .rv r, .rv v, .rv b] from rfl, ldg_at (by rfl) (by rfl), callP_ret (by simp [toRV, depthA]) hF (.inr rfl), asInt_i, bsp_of (by simpa using he)]
    simp [pureR, toRV, depthA]
  exact ⟨fun h => key 130 (by omega) ((ssaFlow_spec hd').1 h), fun h q => key 131 (by omega) ((ssaFlow_spec hd').2.2 h q)⟩
theorem flowDoms_spec {cs : List RV} {d : Cd} (hd : IsCd cs d) (hf : formOk d.blocks = true) (hq : FlowOk d.blocks) {P : List Nat} (hP : IsPost d.blocks P) :
    ∃ par x, Done (grOf hf hq hP) par ∧ F_flow_Doms [.agg cs] = some (.ret (.tuple [x, I 0])) ∧ IsInts x (dvs par d.blocks.length) := by
  have hl : 0 < d.blocks.length ∧ d.blocks.length ≤ 4096 := by
    simp only [formOk, Bool.and_eq_true, decide_eq_true_eq] at hf
    exact hf.1
  obtain ⟨y, e1, hy⟩ := ssaPost_spec hd hl (formOk_succs hf) hP
  obtain ⟨par, x, hdone, e2, hx⟩ := Doms_spec hd hf hq hP hy
  refine ⟨par, x, hdone, ?_, hx⟩
  have e0 := (ssaFlow_spec hd).2.1 hf hq
  obtain ⟨p, r, v, b, rfl, _, _, _, hb⟩ := hd
  unfold F_flow_Doms
  rw [List.map_cons, List.map_nil, flow_Doms_eq, box_agg, List.nil_append, List.length_nil, show List.map AV.rv [p, r, v, b] = [.rv p, .rv r, .rv v, .rv b] from rfl, ldg_at (by rfl) (by rfl), callP_ret (by simp [toRV, depthA]) e0 (.inr rfl), asInt_i, bsp_not (by rfl),
    ldg_at (by rfl) (by rfl), ldg_at (by rfl) (by rfl), callP_ret (by simp [toRV, depthA]) e1 (.inl rfl), callP_ret (by simp [toRV, depthA]) e2 (.inl rfl)]
  simp [pureR, toRV, depthA]
end Go.Proofs.Ytknphnmhjmejaaa
