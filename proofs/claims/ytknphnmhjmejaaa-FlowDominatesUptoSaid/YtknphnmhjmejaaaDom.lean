/-  Immediate dominators by turns, each block's out of those of what leads to it, until nothing turns: plain. No conditions. -/
import Derived.Test.YtknphnmhjmejaaaDfs
namespace Go.Proofs.Ytknphnmhjmejaaa
set_option linter.unusedVariables false
/-- Blocks, their places in postorder, what leads to each; of each but the first one that leads to it and stands behind it. -/
structure Gr where
  N : Nat → Prop
  num : Nat → Nat
  pr : Nat → List Nat
  t : Nat → Nat
  n0 : N 0
  inj : ∀ a b, N a → N b → num a = num b → a = b
  top : ∀ b, N b → b ≠ 0 → num b < num 0
  pin : ∀ b, N b → ∀ p ∈ pr b, N p
  tp : ∀ b, N b → b ≠ 0 → t b ∈ pr b ∧ num b < num (t b)
/-- What is reached without d. -/
inductive Gr.Av (G : Gr) (d : Nat) : Nat → Prop
  | root (h : 0 ≠ d) : Gr.Av G d 0
  | step {p b : Nat} (r : Gr.Av G d p) (h : p ∈ G.pr b) (hb : G.N b) (hd : b ≠ d) : Gr.Av G d b
abbrev Par := Nat → Option Nat
inductive Anc (par : Par) : Nat → Nat → Prop
  | refl (x : Nat) : Anc par x x
  | step {x y e : Nat} (h : par x = some y) (r : Anc par y e) : Anc par x e
inductive TAn (G : Gr) : Nat → Nat → Prop
  | refl (x : Nat) : TAn G x x
  | step {x e : Nat} (h : x ≠ 0) (hx : G.N x) (r : TAn G (G.t x) e) : TAn G x e
theorem TAn.trans {G : Gr} {x y z : Nat} (a : TAn G x y) (b : TAn G y z) : TAn G x z := by
  induction a with
  | refl => exact b
  | step h hx _ ih => exact .step h hx (ih b)
section
variable {par : Par}
theorem Anc.trans {x y z : Nat} (a : Anc par x y) (b : Anc par y z) : Anc par x z := by
  induction a with
  | refl => exact b
  | step h _ ih => exact .step h (ih b)
theorem Anc.linear {x a b : Nat} (h : Anc par x a) (k : Anc par x b) : Anc par a b ∨ Anc par b a := by
  induction h with
  | refl => exact .inl k
  | step e r ih =>
    cases k with
    | refl => exact .inr (.step e r)
    | step e2 r2 =>
      rw [e] at e2
      cases e2
      exact ih r2
theorem Anc.next {x y e : Nat} (h : Anc par x e) (hn : x ≠ e) (hp : par x = some y) : Anc par y e := by
  cases h with
  | refl => exact absurd rfl hn
  | step e2 r => rw [hp] at e2; cases e2; exact r
end
structure Inv (G : Gr) (par : Par) : Prop where
  root : par 0 = some 0
  up : ∀ x y, x ≠ 0 → par x = some y → G.N x ∧ G.N y ∧ G.num x < G.num y ∧ par y ≠ none ∧ TAn G x y
  dom : ∀ x, G.N x → par x ≠ none → ∀ d, ¬ G.Av d x → Anc par x d
section
variable {G : Gr} {par : Par}
theorem Inv.nz (k : Inv G par) {x e : Nat} (h : Anc par x e) (hx : x = 0) : e = 0 := by
  induction h with
  | refl => exact hx
  | step hp r ih =>
    subst hx
    rw [k.root] at hp
    cases hp
    exact ih rfl
theorem Inv.le (k : Inv G par) {x e : Nat} (h : Anc par x e) : x = e ∨ G.num x < G.num e := by
  induction h with
  | refl => exact .inl rfl
  | @step x y e hp r ih =>
    by_cases hx : x = 0
    · subst hx
      exact .inl (k.nz (.step hp r) rfl).symm
    · have := (k.up x y hx hp).2.2.1
      rcases ih with rfl | h
      · exact .inr this
      · exact .inr (by omega)
theorem Inv.le' (k : Inv G par) {x e : Nat} (h : Anc par x e) : G.num x ≤ G.num e := by
  rcases k.le h with rfl | h <;> omega
theorem Inv.anti (k : Inv G par) {x e : Nat} (h : Anc par x e) (h2 : Anc par e x) : x = e := by
  rcases k.le h with h | h
  · exact h
  · have := k.le' h2
    omega
theorem Inv.set (k : Inv G par) {x e : Nat} (h : Anc par x e) (hs : par x ≠ none) : par e ≠ none := by
  induction h with
  | refl => exact hs
  | @step x y e hp r ih =>
    by_cases hx : x = 0
    · subst hx
      rw [k.root] at hp
      cases hp
      exact ih hs
    · exact ih (k.up x y hx hp).2.2.2.1
theorem Inv.n (k : Inv G par) {x e : Nat} (h : Anc par x e) (hs : G.N x) : G.N e := by
  induction h with
  | refl => exact hs
  | @step x y e hp r ih =>
    by_cases hx : x = 0
    · subst hx
      rw [k.root] at hp
      cases hp
      exact ih hs
    · exact ih (k.up x y hx hp).2.1
theorem Inv.tan (k : Inv G par) {x e : Nat} (h : Anc par x e) : TAn G x e := by
  induction h with
  | refl x => exact .refl x
  | @step x y e hp r ih =>
    by_cases hx : x = 0
    · have := k.nz (.step hp r) hx
      subst hx; subst this
      exact .refl 0
    · exact (k.up x y hx hp).2.2.2.2.trans ih
/-- Along those that stand behind each a block is reached without what stands behind all. -/
theorem Gr.tpath {x b d : Nat} (h : TAn G x b) (hd : G.num b < G.num d) (hx : G.N x) : G.num x ≤ G.num b ∧ (G.Av d b → G.Av d x) := by
  induction h with
  | refl => exact ⟨Nat.le_refl _, id⟩
  | step h0 hN r ih =>
    obtain ⟨h1, h2⟩ := G.tp _ hN h0
    obtain ⟨h3, h4⟩ := ih hd (G.pin _ hN _ h1)
    refine ⟨by omega, fun h => .step (h4 h) h1 hN ?_⟩
    rintro rfl
    omega
def upd (par : Par) (y c : Nat) : Par := fun x => if x = y then some c else par x
theorem upd_same {y c : Nat} : upd par y c y = some c := by simp [upd]
theorem upd_ne {x y c : Nat} (h : x ≠ y) : upd par y c x = par x := by simp [upd, h]
/-- What does not come to y is as it was. -/
theorem anc_high {x y c e : Nat} (hn : ¬ Anc par x y) : Anc (upd par y c) x e ↔ Anc par x e := by
  constructor
  · intro h
    induction h with
    | refl => exact .refl _
    | @step x z e hp r ih =>
      have hxy : x ≠ y := by rintro rfl; exact hn (.refl _)
      rw [upd_ne hxy] at hp
      exact .step hp (ih fun h => hn (.step hp h))
  · intro h
    induction h with
    | refl => exact .refl _
    | @step x z e hp r ih =>
      have hxy : x ≠ y := by rintro rfl; exact hn (.refl _)
      exact .step (by rw [upd_ne hxy]; exact hp) (ih fun h => hn (.step hp h))
theorem anc_to {x y c : Nat} (h : Anc par x y) : Anc (upd par y c) x y := by
  induction h with
  | refl => exact .refl _
  | @step x z y hp r ih =>
    by_cases hxy : x = y
    · subst hxy; exact .refl _
    · exact .step (by rw [upd_ne hxy]; exact hp) ih
theorem anc_split {x y c e : Nat} (h : Anc par x e) : Anc (upd par y c) x e ∨ (Anc par x y ∧ Anc par y e ∧ y ≠ e) := by
  induction h with
  | refl => exact .inl (.refl _)
  | @step x z e hp r ih =>
    by_cases hxy : x = y
    · subst hxy
      by_cases he : x = e
      · subst he; exact .inl (.refl _)
      · exact .inr ⟨.refl _, .step hp r, he⟩
    · rcases ih with h | ⟨h1, h2, h3⟩
      · exact .inl (.step (by rw [upd_ne hxy]; exact hp) h)
      · exact .inr ⟨.step hp h1, h2, h3⟩
/-- All that is above all of what leads to y, and is known: above c. -/
def IsMeet (G : Gr) (par : Par) (y c : Nat) : Prop := ∀ e, Anc par c e ↔ ∀ p ∈ G.pr y, par p ≠ none → Anc par p e
structure Put (G : Gr) (par : Par) (y c : Nat) : Prop where
  k : Inv G par
  y0 : y ≠ 0
  hy : G.N y
  ht : par (G.t y) ≠ none
  m : IsMeet G par y c
theorem Put.tc {y c : Nat} (u : Put G par y c) : Anc par (G.t y) c := (u.m c).1 (.refl c) _ (G.tp y u.hy u.y0).1 u.ht
theorem Put.lt {y c : Nat} (u : Put G par y c) : G.num y < G.num c := by
  have := u.k.le' u.tc
  have := (G.tp y u.hy u.y0).2
  omega
theorem Put.high {y c : Nat} (u : Put G par y c) {x e : Nat} (h : G.num y < G.num x) : Anc (upd par y c) x e ↔ Anc par x e :=
  anc_high fun h2 => by have := u.k.le' h2; omega
theorem Put.inv {y c : Nat} (u : Put G par y c) : Inv G (upd par y c) := by
  have hset : ∀ x, par x ≠ none → upd par y c x ≠ none := by
    intro x h
    by_cases hx : x = y
    · subst hx; simp [upd_same]
    · rwa [upd_ne hx]
  have dy : ∀ d, ¬ G.Av d y → Anc (upd par y c) y d := by
    intro d hd
    by_cases e : y = d
    · subst e; exact .refl _
    · refine .step upd_same ((u.high u.lt).2 ((u.m d).2 fun p hp hs => u.k.dom p (G.pin _ u.hy _ hp) hs d fun h => hd (.step h hp u.hy e)))
  refine ⟨by rw [upd_ne (Ne.symm u.y0)]; exact u.k.root, ?_, ?_⟩
  · intro x z hx hp
    by_cases hxy : x = y
    · subst hxy
      rw [upd_same] at hp
      cases hp
      refine ⟨u.hy, u.k.n u.tc (G.pin _ u.hy _ (G.tp x u.hy u.y0).1), u.lt, hset _ (u.k.set u.tc u.ht), .step u.y0 u.hy (u.k.tan u.tc)⟩
    · rw [upd_ne hxy] at hp
      obtain ⟨h1, h2, h3, h4, h5⟩ := u.k.up x z hx hp
      exact ⟨h1, h2, h3, hset _ h4, h5⟩
  · intro x hN hs d hd
    by_cases hxy : x = y
    · subst hxy; exact dy d hd
    · rw [upd_ne hxy] at hs
      rcases anc_split (y := y) (c := c) (u.k.dom x hN hs d hd) with h | ⟨h1, h2, h3⟩
      · exact h
      · have hlt : G.num y < G.num d := (u.k.le h2).resolve_left h3
        have := (G.tpath (u.k.tan h1) hlt hN).2
        exact (anc_to h1).trans (dy d fun h => hd (this h))
/-- What is kept while turns are made: 'v' is the place up to which this turn has not come. -/
structure Kept (G : Gr) (par : Par) (v : Nat) : Prop where
  k : Inv G par
  con : ∀ b q, b ≠ 0 → par b = some q → ∀ e, (∀ p ∈ G.pr b, par p ≠ none → Anc par p e) → Anc par q e
  low : ∀ b q z, b ≠ 0 → par b = some q → G.num z < v → Anc par q z → Anc par (G.t b) z
  new : ∀ b q, b ≠ 0 → par b = some q → v ≤ G.num b → Anc par (G.t b) q
  was : ∀ b, G.N b → v ≤ G.num b → par b ≠ none
theorem Kept.put {v y c : Nat} (K : Kept G par v) (y0 : y ≠ 0) (hy : G.N y) (hv : v = G.num y + 1) (m : IsMeet G par y c) : Put G par y c :=
  ⟨K.k, y0, hy, K.was _ (G.pin _ hy _ (G.tp y hy y0).1) (by have := (G.tp y hy y0).2; omega), m⟩
theorem Kept.rises {v y c q : Nat} (K : Kept G par v) (u : Put G par y c) (hq : par y = some q) : q = c ∨ G.num q < G.num c :=
  K.k.le (K.con y q u.y0 hq c ((u.m c).1 (.refl c)))
theorem Kept.next {v y c : Nat} (K : Kept G par v) (hv : v = G.num y + 1) (u : Put G par y c) : Kept G (upd par y c) (G.num y) := by
  have k := u.k
  have k' := u.inv
  have shrink : ∀ x e, par x ≠ none → Anc (upd par y c) x e → Anc par x e := by
    intro x e hs h
    induction h with
    | refl => exact .refl _
    | @step x z e hp r ih =>
      by_cases hxy : x = y
      · subst hxy
        rw [upd_same] at hp
        cases hp
        cases hq : par x with
        | none => exact absurd hq hs
        | some q =>
          have h1 : Anc par q c := K.con x q u.y0 hq c ((u.m c).1 (.refl c))
          exact .step hq (h1.trans ((u.high u.lt).1 r))
      · rw [upd_ne hxy] at hp
        refine .step hp (ih ?_)
        by_cases hx : x = 0
        · subst hx
          rw [k.root] at hp
          cases hp
          exact hs
        · exact (k.up x z hx hp).2.2.2.1
  have setb : ∀ x, par x ≠ none → upd par y c x ≠ none := by
    intro x h
    by_cases hx : x = y
    · subst hx; simp [upd_same]
    · rwa [upd_ne hx]
  refine ⟨k', ?_, ?_, ?_, ?_⟩
  · intro b q hb hq e he
    by_cases hby : b = y
    · subst hby
      rw [upd_same] at hq
      cases hq
      exact (u.high u.lt).2 ((u.m e).2 fun p hp hs => shrink p e hs (he p hp (setb p hs)))
    · rw [upd_ne hby] at hq
      have hold := K.con b q hb hq e fun p hp hs => shrink p e hs (he p hp (setb p hs))
      by_cases hqy : Anc par q y
      · rcases anc_split (y := y) (c := c) hold with h | ⟨h1, h2, h3⟩
        · exact h
        · have hN := (k.up b q hb hq).1
          have ht := K.low b q y hb hq (by omega) hqy
          have htb := (G.tp b hN hb).1
          have hlt : G.num y < G.num e := (k.le h2).resolve_left h3
          have hts : par (G.t b) ≠ none := by
            intro h0
            have hpy : par y ≠ none := k.set hqy (k.up b q hb hq).2.2.2.1
            cases ht with
            | refl => exact hpy h0
            | step hp _ => rw [h0] at hp; cases hp
          have h4 := he _ htb (setb _ hts)
          rcases Anc.linear (anc_to (c := c) ht) h4 with h5 | h5
          · exact (anc_to hqy).trans h5
          · have := k'.le' h5
            omega
      · exact (anc_high hqy).2 hold
  · intro b q z hb hq hz h
    by_cases hby : b = y
    · subst hby
      rw [upd_same] at hq
      cases hq
      have := k'.le' h
      have := u.lt
      omega
    · rw [upd_ne hby] at hq
      have h1 := shrink q z (k.up b q hb hq).2.2.2.1 h
      rcases anc_split (y := y) (c := c) (K.low b q z hb hq (by omega) h1) with h | ⟨_, h2, _⟩
      · exact h
      · have := k.le' h2
        omega
  · intro b q hb hq hv'
    by_cases hby : b = y
    · subst hby
      rw [upd_same] at hq
      cases hq
      exact (u.high (G.tp b u.hy hb).2).2 u.tc
    · rw [upd_ne hby] at hq
      have hN := (k.up b q hb hq).1
      have hne : G.num b ≠ G.num y := fun h => hby (G.inj _ _ hN u.hy h)
      refine (u.high ?_).2 (K.new b q hb hq (by omega))
      have := (G.tp b hN hb).2
      omega
  · intro b hN hv'
    by_cases hby : b = y
    · subst hby; simp [upd_same]
    · rw [upd_ne hby]
      have hne : G.num b ≠ G.num y := fun h => hby (G.inj _ _ hN u.hy h)
      exact K.was b hN (by omega)
/-- Behind a whole turn the next one begins. -/
theorem Kept.again {v : Nat} (K : Kept G par 0) (hv : v = G.num 0) : Kept G par v where
  k := K.k
  con := K.con
  low := fun b q z hb hq _ h => (K.new b q hb hq (Nat.zero_le _)).trans h
  new := fun b q hb hq _ => K.new b q hb hq (Nat.zero_le _)
  was := fun b hN _ => K.was b hN (Nat.zero_le _)
theorem Kept.init (h0 : par 0 = some 0) (hn : ∀ x, x ≠ 0 → par x = none) : Kept G par (G.num 0) where
  k := ⟨h0, fun x y hx h => (by rw [hn x hx] at h; cases h), fun x hN hs d hd => by
    by_cases hx : x = 0
    · subst hx
      by_cases e : 0 = d
      · subst e; exact .refl _
      · exact absurd (.root e) hd
    · exact absurd (hn x hx) hs⟩
  con := fun b q hb h => by rw [hn b hb] at h; cases h
  low := fun b q z hb h => by rw [hn b hb] at h; cases h
  new := fun b q hb h => by rw [hn b hb] at h; cases h
  was := fun b hN hv => by
    by_cases hb : b = 0
    · subst hb; simp [h0]
    · have := G.top b hN hb; omega
/-- Where nothing turns any more, what is above a block is just what it is not reached without. -/
theorem Inv.exact (k : Inv G par) (hall : ∀ b, G.N b → par b ≠ none) (fix : ∀ b q, G.N b → b ≠ 0 → par b = some q → IsMeet G par b q) {b d : Nat} (hN : G.N b) : Anc par b d ↔ ¬ G.Av d b := by
  refine ⟨fun h hav => ?_, fun h => k.dom b hN (hall b hN) d h⟩
  induction hav with
  | root h0 => exact h0 (k.nz h rfl).symm
  | @step p b r hp hb hd ih =>
    by_cases h0 : b = 0
    · exact hd (by rw [k.nz h h0, h0])
    · cases hq : par b with
      | none => exact hall b hb hq
      | some q => exact ih (G.pin b hb p hp) ((fix b q hb h0 hq d).1 (h.next hd hq) p hp (hall p (G.pin b hb p hp)))
end
end Go.Proofs.Ytknphnmhjmejaaa
