/-  The walk of immediate dominators: where two blocks' ways up meet. No conditions. -/
import Derived.Test.YtknphnmhjmejaaaD1
import Derived.Test.YtknphnmhjmejaaaHi
import Derived.Test.YtknphnmhjmejaaaDom
namespace Go.Proofs.Ytknphnmhjmejaaa
set_option linter.unusedVariables false
/-- A block's immediate dominator, as the list bears it. -/
def dlv (par : Par) (x : Nat) : Int := match par x with | some y => (y : Int) | none => -1
def dl (par : Par) (n : Nat) : List Int := (List.range n).map (dlv par)
theorem dl_len (par : Par) (n : Nat) : (dl par n).length = n := by simp [dl]
theorem dl_at {par : Par} {n x : Nat} (hx : x < n) : (dl par n)[x]? = some (dlv par x) := by simp [dl, hx]
theorem dl_set {par : Par} {n x c : Nat} (hx : x < n) : (dl par n).set x (c : Int) = dl (upd par x c) n := by
  apply List.ext_getElem?
  intro i
  by_cases hi : i < n
  · rw [dl_at hi, List.getElem?_set]
    by_cases e : x = i
    · subst e
      rw [if_pos rfl, if_pos (by rw [dl_len]; exact hx)]
      simp [dlv, upd]
    · rw [if_neg e, dl_at hi]
      unfold dlv
      rw [upd_ne (fun h => e h.symm)]
  · rw [List.getElem?_eq_none (by simp [dl_len]; omega), List.getElem?_eq_none (by rw [dl_len]; omega)]
/-- What lies where: the places in postorder, the dominators so far. -/
structure DH (P : List Nat) (n : Nat) (par : Par) (h : Hp) : Prop where
  o1 : h[1]? = some ⟨0, 1, (rks P P.length n).map ai⟩
  o2 : h[2]? = some ⟨0, 1, [.sl 1 0 0 n]⟩
  o3 : h[3]? = some ⟨0, 1, (dl par n).map ai⟩
  o4 : h[4]? = some ⟨0, 1, [.sl 3 0 0 n]⟩
theorem DH.num {P : List Nat} {n : Nat} {par : Par} {h : Hp} (k : DH P n par h) {x : Nat} (hx : x < n) (hP : x ∈ P) {R : Type} (K : Int → Option R) : (ldv h (.ptr 2 0 0) fun v => ixa 1 v x fun p => ldi .i64 h p K) = K (P.idxOf x : Int) := by
  rw [ldv_at k.o2 (by rfl), sl_at hx, ldi_at (n := (P.idxOf x : Int)) k.o1 (by rw [List.getElem?_map, rks_at hx, rk_all hP]; rfl)]
theorem DH.dom {P : List Nat} {n : Nat} {par : Par} {h : Hp} (k : DH P n par h) {x : Nat} (hx : x < n) {R : Type} (K : Int → Option R) : (ldv h (.ptr 4 0 0) fun v => ixa 1 v x fun p => ldi .i64 h p K) = K (dlv par x) := by
  rw [ldv_at k.o4 (by rfl), sl_at hx, ldi_at (n := dlv par x) k.o3 (by rw [List.getElem?_map, dl_at hx]; rfl)]
/-- The graph of what is reached, by its order. -/
structure GrP (G : Gr) (P : List Nat) (n : Nat) : Prop where
  mem : ∀ x, G.N x ↔ x ∈ P
  num : ∀ x, G.num x = P.idxOf x
  lt : ∀ x ∈ P, x < n
  nd : P.Nodup
section
variable {G : Gr} {P : List Nat} {n : Nat} {par : Par} {h : Hp}
theorem GrP.le0 (g : GrP G P n) {x : Nat} (hx : G.N x) : G.num x ≤ G.num 0 := by
  by_cases e : x = 0
  · rw [e]; exact Nat.le_refl _
  · exact Nat.le_of_lt (G.top x hx e)
theorem dlv_some {x y : Nat} (hp : par x = some y) : dlv par x = y := by simp [dlv, hp]
/-- What two have above them is what other two have. -/
def Com (par : Par) (a b a' b' : Nat) : Prop := ∀ e, (Anc par a e ∧ Anc par b e) ↔ (Anc par a' e ∧ Anc par b' e)
def Nd (G : Gr) (par : Par) (a : Nat) : Prop := G.N a ∧ par a ≠ none
theorem Inv.step_up (k : Inv G par) {a b : Nat} (ha : Nd G par a) (hb : Nd G par b) (h : G.num a < G.num b) (hle : G.num b ≤ G.num 0) : ∃ y, par a = some y ∧ Nd G par y ∧ G.num a < G.num y ∧ Com par a b y b := by
  obtain ⟨y, hy⟩ := Option.ne_none_iff_exists'.1 ha.2
  have a0 : a ≠ 0 := by rintro rfl; omega
  obtain ⟨_, h2, h3, h4, _⟩ := k.up a y a0 hy
  refine ⟨y, hy, ⟨h2, h4⟩, h3, fun e => ⟨fun ⟨h5, h6⟩ => ⟨h5.next (fun e' => ?_) hy, h6⟩, fun ⟨h5, h6⟩ => ⟨.step hy h5, h6⟩⟩⟩
  subst e'
  have := k.le' h6
  omega
theorem Com.trans {a b c d e f : Nat} (x : Com par a b c d) (y : Com par c d e f) : Com par a b e f := fun z => (x z).trans (y z)
theorem Com.swap {a b c d : Nat} (x : Com par a b c d) : Com par b a d c := fun z => by
  have := x z
  constructor
  · rintro ⟨h1, h2⟩; exact ((this.1 ⟨h2, h1⟩)).symm
  · rintro ⟨h1, h2⟩; exact ((this.2 ⟨h2, h1⟩)).symm
theorem meet_in1 (g : GrP G P n) (k : Inv G par) (d : DH P n par h) (kk N24 M24 M784 : Nat) {b : Nat} (hb : Nd G par b) (Q : Option (ARes × Hp) → Prop) :
    ∀ (m a N784 : Nat), G.num 0 - G.num a ≤ m → m < N784 → Nd G par a →
      (∀ a', Nd G par a' → Com par a b a' b → G.num b ≤ G.num a' → G.num a ≤ G.num a' → Q (ssa_Doms_c1_p197 kk N24 M24 a' b (.ptr 2 0 0) (.ptr 4 0 0) h)) →
      Q (ssa_Doms_c1_l784 kk N24 M24 N784 M784 a b (.ptr 2 0 0) (.ptr 4 0 0) h) := by
  intro m
  induction m with
  | zero =>
    intro a N784 hm hN ha hq
    obtain ⟨N784, rfl⟩ : ∃ q, N784 = q + 1 := ⟨N784 - 1, by omega⟩
    have h1 := g.le0 ha.1
    have h2 := g.le0 hb.1
    rw [ssa_Doms_c1_l784_eq, d.num (g.lt _ ((g.mem a).1 ha.1)) ((g.mem a).1 ha.1), d.num (g.lt _ ((g.mem b).1 hb.1)) ((g.mem b).1 hb.1), ← g.num, ← g.num, bsp_not (decide_eq_false (by omega))]
    exact hq a ha (fun _ => Iff.rfl) (by omega) (Nat.le_refl _)
  | succ m ih =>
    intro a N784 hm hN ha hq
    obtain ⟨N784, rfl⟩ : ∃ q, N784 = q + 1 := ⟨N784 - 1, by omega⟩
    have h1 := g.le0 ha.1
    have h2 := g.le0 hb.1
    rw [ssa_Doms_c1_l784_eq, d.num (g.lt _ ((g.mem a).1 ha.1)) ((g.mem a).1 ha.1), d.num (g.lt _ ((g.mem b).1 hb.1)) ((g.mem b).1 hb.1), ← g.num, ← g.num]
    by_cases hlt : G.num a < G.num b
    · obtain ⟨y, hy, hyn, hny, hc⟩ := k.step_up ha hb hlt h2
      rw [bsp_of (decide_eq_true (by omega)), d.dom (g.lt _ ((g.mem a).1 ha.1)), dlv_some hy]
      have h3 := g.le0 hyn.1
      exact ih y N784 (by omega) (by omega) hyn fun a' h4 h5 h6 h7 => hq a' h4 (hc.trans h5) h6 (by omega)
    · rw [bsp_not (decide_eq_false (by omega))]
      exact hq a ha (fun _ => Iff.rfl) (by omega) (Nat.le_refl _)
theorem meet_in2 (g : GrP G P n) (k : Inv G par) (d : DH P n par h) (kk N24 M24 M788 : Nat) {a : Nat} (ha : Nd G par a) (Q : Option (ARes × Hp) → Prop) :
    ∀ (m b N788 : Nat), G.num 0 - G.num b ≤ m → m < N788 → Nd G par b →
      (∀ b', Nd G par b' → Com par a b a b' → G.num a ≤ G.num b' → G.num b ≤ G.num b' → Q (ssa_Doms_c1_l24 kk N24 M24 a b' (.ptr 2 0 0) (.ptr 4 0 0) h)) →
      Q (ssa_Doms_c1_l788 kk N24 M24 N788 M788 a b (.ptr 2 0 0) (.ptr 4 0 0) h) := by
  intro m
  induction m with
  | zero =>
    intro b N788 hm hN hb hq
    obtain ⟨N788, rfl⟩ : ∃ q, N788 = q + 1 := ⟨N788 - 1, by omega⟩
    have h1 := g.le0 ha.1
    have h2 := g.le0 hb.1
    rw [ssa_Doms_c1_l788_eq, d.num (g.lt _ ((g.mem b).1 hb.1)) ((g.mem b).1 hb.1), d.num (g.lt _ ((g.mem a).1 ha.1)) ((g.mem a).1 ha.1), ← g.num, ← g.num, bsp_not (decide_eq_false (by omega))]
    exact hq b hb (fun _ => Iff.rfl) (by omega) (Nat.le_refl _)
  | succ m ih =>
    intro b N788 hm hN hb hq
    obtain ⟨N788, rfl⟩ : ∃ q, N788 = q + 1 := ⟨N788 - 1, by omega⟩
    have h1 := g.le0 ha.1
    have h2 := g.le0 hb.1
    rw [ssa_Doms_c1_l788_eq, d.num (g.lt _ ((g.mem b).1 hb.1)) ((g.mem b).1 hb.1), d.num (g.lt _ ((g.mem a).1 ha.1)) ((g.mem a).1 ha.1), ← g.num, ← g.num]
    by_cases hlt : G.num b < G.num a
    · obtain ⟨y, hy, hyn, hny, hc⟩ := k.step_up hb ha hlt h1
      rw [bsp_of (decide_eq_true (by omega)), d.dom (g.lt _ ((g.mem b).1 hb.1)), dlv_some hy]
      have h3 := g.le0 hyn.1
      exact ih y N788 (by omega) (by omega) hyn fun b' h4 h5 h6 h7 => hq b' h4 (hc.swap.trans h5) h6 (by omega)
    · rw [bsp_not (decide_eq_false (by omega))]
      exact hq b hb (fun _ => Iff.rfl) (by omega) (Nat.le_refl _)
/-- What stands above both. -/
def IsM (G : Gr) (par : Par) (a b c : Nat) : Prop := Nd G par c ∧ ∀ e, Anc par c e ↔ (Anc par a e ∧ Anc par b e)
theorem meet_out (g : GrP G P n) (k : Inv G par) (d : DH P n par h) (kk M24 : Nat) (hk : G.num 0 < kk) {a0 b0 : Nat} :
    ∀ (m a b N24 : Nat), (G.num 0 - G.num a) + (G.num 0 - G.num b) ≤ m → m < N24 → Nd G par a → Nd G par b → Com par a0 b0 a b →
      ∃ c, IsM G par a0 b0 c ∧ ssa_Doms_c1_l24 kk N24 M24 a b (.ptr 2 0 0) (.ptr 4 0 0) h = some (.ret (ai c), h) := by
  intro m
  induction m with
  | zero =>
    intro a b N24 hm hN ha hb hc
    obtain ⟨N24, rfl⟩ : ∃ q, N24 = q + 1 := ⟨N24 - 1, by omega⟩
    have h1 := g.le0 ha.1
    have h2 := g.le0 hb.1
    have e : a = b := G.inj a b ha.1 hb.1 (by omega)
    subst e
    rw [ssa_Doms_c1_l24_eq, bsp_not (by simp), ssa_Doms_c1_p7_eq]
    exact ⟨a, ⟨ha, fun e => ⟨fun h => (hc e).2 ⟨h, h⟩, fun h => ((hc e).1 h).1⟩⟩, rfl⟩
  | succ m ih =>
    intro a b N24 hm hN ha hb hc
    obtain ⟨N24, rfl⟩ : ∃ q, N24 = q + 1 := ⟨N24 - 1, by omega⟩
    have h1 := g.le0 ha.1
    have h2 := g.le0 hb.1
    by_cases e : a = b
    · subst e
      rw [ssa_Doms_c1_l24_eq, bsp_not (by simp), ssa_Doms_c1_p7_eq]
      exact ⟨a, ⟨ha, fun e => ⟨fun h => (hc e).2 ⟨h, h⟩, fun h => ((hc e).1 h).1⟩⟩, rfl⟩
    · have hne : G.num a ≠ G.num b := fun h => e (G.inj a b ha.1 hb.1 h)
      rw [ssa_Doms_c1_l24_eq, bsp_of (by simpa using (by omega : ¬ (a : Int) = b))]
      refine meet_in1 g k d kk N24 M24 _ hb (fun o => ∃ c, IsM G par a0 b0 c ∧ o = some (.ret (ai c), h)) (G.num 0) a kk (by omega) hk ha fun a' ha' hc' h3 h4 => ?_
      rw [ssa_Doms_c1_p197_eq]
      refine meet_in2 g k d kk N24 M24 _ ha' (fun o => ∃ c, IsM G par a0 b0 c ∧ o = some (.ret (ai c), h)) (G.num 0) b kk (by omega) hk hb fun b' hb' hc2 h5 h6 => ?_
      have h7 := g.le0 ha'.1
      have h8 := g.le0 hb'.1
      exact ih a' b' N24 (by omega) (by omega) ha' hb' (hc.trans (hc'.trans hc2))
theorem meet_spec (g : GrP G P n) (k : Inv G par) (d : DH P n par h) {a b : Nat} (ha : Nd G par a) (hb : Nd G par b) (hn : n ≤ 4096) :
    ∃ c, IsM G par a b c ∧ G_ssa_Doms_c1 [ai a, ai b, .ptr 2 0 0, .ptr 4 0 0] h = some (.ret (ai c), h) := by
  have h0 : G.num 0 < 4096 := by
    have h1 := (g.mem 0).1 G.n0
    rw [g.num]
    have h2 := List.idxOf_lt_length_iff.2 h1
    have h3 : P.length ≤ n := by
      exact nodup_le n P g.nd g.lt
    omega
  unfold G_ssa_Doms_c1
  rw [ssa_Doms_c1_eq]
  exact meet_out g k d big _ (by rw [big_val]; omega) _ a b big (Nat.le_refl _) (by rw [big_val]; omega) ha hb (fun _ => Iff.rfl)
end
end Go.Proofs.Ytknphnmhjmejaaa
