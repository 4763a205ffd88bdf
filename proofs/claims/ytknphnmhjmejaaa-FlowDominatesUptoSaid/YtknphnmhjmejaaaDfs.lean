/-  Depth first: plain. No conditions. -/
import Derived.Test.YtknphnmhjmejaaaAmSj
namespace Go.Proofs.Ytknphnmhjmejaaa
set_option linter.unusedVariables false
/-- What is reached by ways of any length. -/
inductive Way (sc : Nat → List Nat) : Nat → Nat → Prop
  | refl (x : Nat) : Way sc x x
  | step {x y z : Nat} (h : Way sc x y) (e : z ∈ sc y) : Way sc x z
theorem Way.trans {sc : Nat → List Nat} {x y z : Nat} (h : Way sc x y) (k : Way sc y z) : Way sc x z := by
  induction k with
  | refl => exact h
  | step _ e ih => exact .step ih e
theorem Way.head {sc : Nat → List Nat} {x y z : Nat} (e : y ∈ sc x) (k : Way sc y z) : Way sc x z := (Way.step (.refl x) e).trans k
/-- Looking at a list of blocks, one by one: those not seen yet are gone into. First what was seen, in its order, and what is done with. -/
inductive Dfs (sc : Nat → List Nat) : List Nat → List Nat → List Nat → List Nat → List Nat → Prop
  | nil (S P : List Nat) : Dfs sc [] S P S P
  | seen {s : Nat} {ss S P S' P' : List Nat} (h : s ∈ S) (r : Dfs sc ss S P S' P') : Dfs sc (s :: ss) S P S' P'
  | go {s : Nat} {ss S P S1 P1 S' P' : List Nat} (h : s ∉ S) (r1 : Dfs sc (sc s) (S ++ [s]) P S1 P1) (r2 : Dfs sc ss S1 (P1 ++ [s]) S' P') : Dfs sc (s :: ss) S P S' P'
section
variable {sc : Nat → List Nat}
theorem Dfs.det {l S P S1 P1 : List Nat} (h : Dfs sc l S P S1 P1) : ∀ {S2 P2 : List Nat}, Dfs sc l S P S2 P2 → S1 = S2 ∧ P1 = P2 := by
  induction h with
  | nil => intro S2 P2 k; cases k; exact ⟨rfl, rfl⟩
  | seen h r ih =>
    intro S2 P2 k
    cases k with
    | seen _ r2 => exact ih r2
    | go h2 _ _ => exact absurd h h2
  | go h r1 r2 ih1 ih2 =>
    intro S2 P2 k
    cases k with
    | seen h2 _ => exact absurd h2 h
    | go _ k1 k2 =>
      obtain ⟨rfl, rfl⟩ := ih1 k1
      exact ih2 k2
/-- What was found and what is done with are alike; ways on; from where each was come to. -/
structure Found (sc : Nat → List Nat) (l S P S' P' N Q : List Nat) : Prop where
  s : S' = S ++ N
  p : P' = P ++ Q
  mem : ∀ x, x ∈ N ↔ x ∈ Q
  nd : S.Nodup → S'.Nodup
  qd : Q.Nodup
  len : Q.length = N.length
  cl : ∀ x ∈ Q, ∀ y ∈ sc x, y ∈ S'
  ll : ∀ y ∈ l, y ∈ S'
  rc : ∀ x ∈ N, ∃ y ∈ l, Way sc y x
  back : ∀ Q1 Q2 x, Q = Q1 ++ x :: Q2 → ∀ y ∈ sc x, y ∈ Q2 → Way sc y x
  from_ : ∀ Q1 Q2 x, Q = Q1 ++ x :: Q2 → x ∈ l ∨ ∃ t ∈ Q2, x ∈ sc t
  out : ∀ x ∈ N, x ∉ S
theorem split_of {α : Type} {A B C D : List α} {x : α} (h : A ++ B = C ++ x :: D) : (∃ E, A = C ++ x :: E ∧ D = E ++ B) ∨ (∃ E, B = E ++ x :: D ∧ C = A ++ E) := by
  rcases List.append_eq_append_iff.1 h with ⟨E, h1, h2⟩ | ⟨E, h1, h2⟩
  · exact .inr ⟨E, h2, h1⟩
  · cases E with
    | nil => simp at h1 h2; exact .inr ⟨[], by simp [h2], by simp [h1]⟩
    | cons e E =>
      simp only [List.cons_append, List.cons.injEq] at h2
      obtain ⟨rfl, rfl⟩ := h2
      exact .inl ⟨E, h1, rfl⟩
theorem Dfs.found {l S P S' P' : List Nat} (h : Dfs sc l S P S' P') : ∃ N Q, Found sc l S P S' P' N Q := by
  induction h with
  | nil S P => exact ⟨[], [], by simp, by simp, by simp, id, by simp, rfl, by simp, by simp, by simp, by simp, by simp, by simp⟩
  | @seen s ss S P S' P' h r ih =>
    obtain ⟨N, Q, k⟩ := ih
    refine ⟨N, Q, k.s, k.p, k.mem, k.nd, k.qd, k.len, k.cl, ?_, ?_, k.back, ?_, k.out⟩
    · intro y hy
      rcases List.mem_cons.1 hy with rfl | hy
      · rw [k.s]; exact List.mem_append.2 (.inl h)
      · exact k.ll y hy
    · intro x hx
      obtain ⟨y, hy, w⟩ := k.rc x hx
      exact ⟨y, List.mem_cons_of_mem _ hy, w⟩
    · intro Q1 Q2 x e
      rcases k.from_ Q1 Q2 x e with h | h
      · exact .inl (List.mem_cons_of_mem _ h)
      · exact .inr h
  | @go s ss S P S1 P1 S' P' h r1 r2 ih1 ih2 =>
    obtain ⟨N1, Q1, k1⟩ := ih1
    obtain ⟨N2, Q2, k2⟩ := ih2
    have sub : ∀ x, x ∈ S1 → x ∈ S' := fun x hx => by rw [k2.s]; exact List.mem_append.2 (.inl hx)
    have s1 : s ∈ S1 := by rw [k1.s]; simp
    have no2 : ∀ x, x ∈ S1 → x ∉ Q2 := fun x hx hq => k2.out x ((k2.mem x).2 hq) hx
    have q1s : ∀ x, x ∈ Q1 → x ∈ S1 := fun x hx => by rw [k1.s]; exact List.mem_append.2 (.inr ((k1.mem x).2 hx))
    have sq1 : s ∉ Q1 := fun hq => k1.out s ((k1.mem s).2 hq) (by simp)
    refine ⟨[s] ++ N1 ++ N2, Q1 ++ [s] ++ Q2, ?_, ?_, ?_, ?_, ?_, ?_, ?_, ?_, ?_, ?_, ?_, ?_⟩
    · rw [k2.s, k1.s]; simp
    · rw [k2.p, k1.p]; simp
    · intro x
      simp only [List.mem_append, List.mem_singleton, k1.mem, k2.mem]
      constructor
      · rintro ((h | h) | h)
        · exact .inl (.inr h)
        · exact .inl (.inl h)
        · exact .inr h
      · rintro ((h | h) | h)
        · exact .inl (.inr h)
        · exact .inl (.inl h)
        · exact .inr h
    · intro hn
      refine k2.nd (k1.nd ?_)
      rw [List.nodup_append]
      refine ⟨hn, by simp, ?_⟩
      intro a ha b hb e
      simp at hb
      subst hb; subst e
      exact h ha
    · rw [List.nodup_append]
      refine ⟨?_, k2.qd, ?_⟩
      · rw [List.nodup_append]
        refine ⟨k1.qd, by simp, ?_⟩
        intro a ha b hb e
        simp at hb
        subst hb; subst e
        exact sq1 ha
      · intro a ha b hb e
        subst e
        refine no2 a ?_ hb
        rcases List.mem_append.1 ha with ha | ha
        · exact q1s a ha
        · simp at ha; subst ha; exact s1
    · simp [k1.len, k2.len]; omega
    · intro x hx y hy
      rcases List.mem_append.1 hx with hx | hx
      · rcases List.mem_append.1 hx with hx | hx
        · exact sub y (k1.cl x hx y hy)
        · simp at hx; subst hx; exact sub y (k1.ll y hy)
      · exact k2.cl x hx y hy
    · intro y hy
      rcases List.mem_cons.1 hy with rfl | hy
      · exact sub y s1
      · exact k2.ll y hy
    · intro x hx
      rcases List.mem_append.1 hx with hx | hx
      · rcases List.mem_append.1 hx with hx | hx
        · simp at hx; subst hx; exact ⟨x, by simp, .refl x⟩
        · obtain ⟨y, hy, w⟩ := k1.rc x hx
          exact ⟨s, by simp, .head hy w⟩
      · obtain ⟨y, hy, w⟩ := k2.rc x hx
        exact ⟨y, List.mem_cons_of_mem _ hy, w⟩
    · intro A B x e y hy hB
      rcases split_of e with ⟨E, e1, rfl⟩ | ⟨E, e1, rfl⟩
      · rcases split_of e1 with ⟨F, e2, rfl⟩ | ⟨F, e2, rfl⟩
        · rcases List.mem_append.1 hB with hB | hB
          · rcases List.mem_append.1 hB with hB | hB
            · exact k1.back _ _ x e2 y hy hB
            · simp at hB
              subst hB
              have hx : x ∈ N1 := (k1.mem x).2 (by rw [e2]; simp)
              obtain ⟨z, hz, w⟩ := k1.rc x hx
              exact .head hz w
          · exact absurd hB (no2 y (k1.cl x (by rw [e2]; simp) y hy))
        · cases F with
          | nil =>
            simp at e2
            obtain ⟨rfl, rfl⟩ := e2
            simp at hB
            exact absurd hB (no2 y (k1.ll y hy))
          | cons f F => simp at e2
      · exact k2.back _ _ x e1 y hy hB
    · intro A B x e
      rcases split_of e with ⟨E, e1, rfl⟩ | ⟨E, e1, rfl⟩
      · rcases split_of e1 with ⟨F, e2, rfl⟩ | ⟨F, e2, rfl⟩
        · rcases k1.from_ _ _ x e2 with h | ⟨t, ht, hx⟩
          · exact .inr ⟨s, by simp, h⟩
          · exact .inr ⟨t, by simp [ht], hx⟩
        · cases F with
          | nil =>
            simp at e2
            obtain ⟨rfl, rfl⟩ := e2
            exact .inl (by simp)
          | cons f F => simp at e2
      · rcases k2.from_ _ _ x e1 with h | ⟨t, ht, hx⟩
        · exact .inl (List.mem_cons_of_mem _ h)
        · exact .inr ⟨t, ht, hx⟩
    · intro x hx
      rcases List.mem_append.1 hx with hx | hx
      · rcases List.mem_append.1 hx with hx | hx
        · simp at hx; subst hx; exact h
        · intro hs
          exact k1.out x hx (by simp [hs])
      · intro hs
        exact k2.out x hx (by rw [k1.s]; simp [hs])
theorem nodup_le : ∀ (n : Nat) (l : List Nat), l.Nodup → (∀ x ∈ l, x < n) → l.length ≤ n
  | 0, [], _, _ => Nat.le_refl _
  | 0, x :: l, _, h => absurd (h x (by simp)) (by omega)
  | n + 1, l, hd, h => by
    have ih := nodup_le n (l.erase n) (hd.erase n) fun x hx => by
      have h1 := (hd.mem_erase_iff).1 hx
      have := h x h1.2
      omega
    have := List.length_erase (a := n) (l := l)
    split at this <;> omega
theorem Way.lt {n : Nat} (hn : ∀ x < n, ∀ y ∈ sc x, y < n) {x y : Nat} (w : Way sc x y) (hx : x < n) : y < n := by
  induction w with
  | refl => exact hx
  | step _ e ih => exact hn _ ih _ e
/-- There is always an answer. -/
theorem Dfs.total {n : Nat} (hn : ∀ x < n, ∀ y ∈ sc x, y < n) : ∀ (m : Nat) (l S P : List Nat), n - S.length ≤ m → S.Nodup → (∀ x ∈ S, x < n) → (∀ x ∈ l, x < n) → ∃ S' P', Dfs sc l S P S' P' := by
  intro m
  induction m with
  | zero =>
    intro l
    induction l with
    | nil => intro S P _ _ _ _; exact ⟨S, P, .nil S P⟩
    | cons s ss ih =>
      intro S P hm hd hs hl
      have hin : s ∈ S := by
        apply Classical.byContradiction
        intro hno
        have : (s :: S).length ≤ n := by
          refine nodup_le n _ (List.nodup_cons.2 ⟨hno, hd⟩) ?_
          intro x hx
          rcases List.mem_cons.1 hx with rfl | hx
          · exact hl _ (by simp)
          · exact hs x hx
        simp at this
        omega
      obtain ⟨S', P', r⟩ := ih S P hm hd hs fun x hx => hl x (List.mem_cons_of_mem _ hx)
      exact ⟨S', P', .seen hin r⟩
  | succ m ihm =>
    intro l
    induction l with
    | nil => intro S P _ _ _ _; exact ⟨S, P, .nil S P⟩
    | cons s ss ih =>
      intro S P hm hd hs hl
      have hl' : ∀ x ∈ ss, x < n := fun x hx => hl x (List.mem_cons_of_mem _ hx)
      by_cases hin : s ∈ S
      · obtain ⟨S', P', r⟩ := ih S P hm hd hs hl'
        exact ⟨S', P', .seen hin r⟩
      · have hsn : s < n := hl s (by simp)
        have hs1 : ∀ x ∈ S ++ [s], x < n := fun x hx => by
          rcases List.mem_append.1 hx with hx | hx
          · exact hs x hx
          · simp at hx; subst hx; exact hsn
        have hd1 : (S ++ [s]).Nodup := by
          rw [List.nodup_append]
          refine ⟨hd, by simp, ?_⟩
          intro a ha b hb e
          simp at hb
          subst hb; subst e
          exact hin ha
        obtain ⟨S1, P1, r1⟩ := ihm (sc s) (S ++ [s]) P (by simp; omega) hd1 hs1 (hn s hsn)
        obtain ⟨N, Q, k⟩ := r1.found
        have h1 : ∀ x ∈ S1, x < n := by
          intro x hx
          rw [k.s] at hx
          rcases List.mem_append.1 hx with hx | hx
          · exact hs1 x hx
          · obtain ⟨y, hy, w⟩ := k.rc x hx
            exact w.lt hn (hn s hsn y hy)
        obtain ⟨S', P', r2⟩ := ih S1 (P1 ++ [s]) (by rw [k.s]; simp; omega) (k.nd hd1) h1 hl'
        exact ⟨S', P', .go hin r1 r2⟩
end
end Go.Proofs.Ytknphnmhjmejaaa
