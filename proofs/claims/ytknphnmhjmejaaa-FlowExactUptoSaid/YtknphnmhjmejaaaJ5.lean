/- Joined texts: AmW, AmF. No conditions but those of each. -/
import Derived.Test.YtknphnmhjmejaaaJ4
/-  The abstract machine: regions in any order in which loads do not wait for what writes. No conditions. -/
namespace Go.Proofs.Ytknphnmhjmejaaa
set_option linter.unusedVariables false
set_option linter.unusedSimpArgs false
section
variable (P : Program) (Γ : FuncId → Option Callee) (ops : Array Oper)
/-- The place reads so. -/
def SldP (t : TypeId) (h : Hp) (p v : AV) : Prop :=
  match P.underlying t with
  | some (.struct _) => ∃ l, cellsN h p 0 (P.cellsOf t) = some l ∧ v = .agg l
  | some (.array ..) => ∃ l, cellsN h p 0 (P.cellsOf t) = some l ∧ v = .agg l
  | _ => cellAt h p 0 = some v
theorem sld_inv {R : Type} {t : TypeId} {h : Hp} {p v : AV} {K : Option R} {r : R} (hk : sld P t h p v K = some r) : SldP P t h p v ∧ K = some r := by
  unfold sld at hk
  unfold SldP
  split at hk
  · rename_i hd
    rw [hd]
    unfold svg at hk
    split at hk
    · exact ⟨‹_›, hk⟩
    · cases hk
  · rename_i hd
    rw [hd]
    unfold svg at hk
    split at hk
    · exact ⟨‹_›, hk⟩
    · cases hk
  · rename_i n1 n2
    unfold sv1 at hk
    split at hk
    · rename_i hc
      refine ⟨?_, hk⟩
      split
      · exact absurd ‹_› (n1 _)
      · exact absurd ‹_› (n2 _ _)
      · exact hc
    · cases hk
theorem sld_val {o : Oper} {t : TypeId} {x : Operand} (ho : o.op = .load t x) {ts : List AV} {h h2 : Hp} {v : AV} (hk : aopO P Γ o ⟨ts, h⟩ = some (.val v h)) (hs : SldP P t h2 (aeval ts x) v) : aopO P Γ o ⟨ts, h2⟩ = some (.val v h2) := by
  unfold aopO aop at hk ⊢
  rw [ho] at hk ⊢
  unfold SldP at hs
  simp only at hk ⊢
  split at hk
  · cases hk
  · rename_i hd
    rw [hd] at hs
    obtain ⟨l, hl, rfl⟩ := hs
    rcases bsq_inv hk with ⟨_, hk⟩ | ⟨h0, hk⟩
    · cases hk
    · simp only [h0, bsq, ldg, hl]
  · rename_i hd
    rw [hd] at hs
    obtain ⟨l, hl, rfl⟩ := hs
    rcases bsq_inv hk with ⟨_, hk⟩ | ⟨h0, hk⟩
    · cases hk
    · simp only [h0, bsq, ldg, hl]
  · rename_i k hd
    rw [hd] at hs
    simp only at hs
    unfold ldi at hk ⊢
    obtain ⟨y, hy, hk⟩ := ldv_inv hk
    obtain ⟨n, hn, hk⟩ := asInt_inv hk
    cases hk
    simp [ldv, hs, asInt0]
  · rename_i hd
    rw [hd] at hs
    simp only at hs
    unfold ldb at hk ⊢
    obtain ⟨y, hy, hk⟩ := ldv_inv hk
    obtain ⟨n, hn, hk⟩ := asBool_inv hk
    cases hk
    simp [ldv, hs, asBool0]
  · rename_i d n1 n2 n3 n4 hd
    rw [hd] at hs
    obtain ⟨y, hy, hk⟩ := ldv_inv hk
    cases hk
    have hs' : cellAt h2 (aeval ts x) 0 = some v := by
      cases d <;> simp_all
    simp [ldv, hs']
theorem ckP_inv {R : Type} {an : List Nat} {j : Nat} {h : Hp} {K : Option R} {r : R} : ∀ {pend : Pend}, ckP P an j h pend K = some r → (∀ x ∈ pend, ordT an x.1 j = false → SldP P x.2.1 h x.2.2.1 x.2.2.2) ∧ K = some r
  | [], hk => ⟨by simp, hk⟩
  | x :: pend, hk => by
    rcases bsq_inv (show bsq (ordT an x.1 j) (ckP P an j h pend K) (sld P x.2.1 h x.2.2.1 x.2.2.2 (ckP P an j h pend K)) = some r from hk) with ⟨ho, hk⟩ | ⟨ho, hk⟩
    · obtain ⟨h1, h2⟩ := ckP_inv hk
      refine ⟨fun y hy hn => ?_, h2⟩
      rcases List.mem_cons.1 hy with rfl | hy
      · rw [ho] at hn; cases hn
      · exact h1 y hy hn
    · obtain ⟨h3, hk⟩ := sld_inv P hk
      obtain ⟨h1, h2⟩ := ckP_inv hk
      refine ⟨fun y hy hn => ?_, h2⟩
      rcases List.mem_cons.1 hy with rfl | hy
      · exact h3
      · exact h1 y hy hn
theorem ckH_inv {R : Type} {an : List Nat} {i : Nat} {t : TypeId} {p v : AV} {K : Option R} {r : R} : ∀ {hs : List (Nat × Hp)}, ckH P an i t p v hs K = some r → (∀ x ∈ hs, ordT an x.1 i = false → SldP P t x.2 p v) ∧ K = some r
  | [], hk => ⟨by simp, hk⟩
  | x :: hs, hk => by
    rcases bsq_inv (show bsq (ordT an x.1 i) (ckH P an i t p v hs K) (sld P t x.2 p v (ckH P an i t p v hs K)) = some r from hk) with ⟨ho, hk⟩ | ⟨ho, hk⟩
    · obtain ⟨h1, h2⟩ := ckH_inv hk
      refine ⟨fun y hy hn => ?_, h2⟩
      rcases List.mem_cons.1 hy with rfl | hy
      · rw [ho] at hn; cases hn
      · exact h1 y hy hn
    · obtain ⟨h3, hk⟩ := sld_inv P hk
      obtain ⟨h1, h2⟩ := ckH_inv hk
      refine ⟨fun y hy hn => ?_, h2⟩
      rcases List.mem_cons.1 hy with rfl | hy
      · exact h3
      · exact h1 y hy hn
/-- What the operations did, one behind the other. -/
structure Can (an : List Nat) (pend : Pend) (hs : List (Nat × Hp)) (i m : Nat) (T : Nat → List AV) (H : Nat → Hp) (v : Nat → AV) : Prop where
  step : ∀ k o, i ≤ k → k < m → ops[k]? = some o → valA P Γ ops o ⟨T k, H k⟩ = some (v k, H (k + 1)) ∧ T (k + 1) = putA o.dst (v k) (T k)
  fwd : ∀ k o j oj, i ≤ k → k < j → j < m → ops[k]? = some o → isL o = true → isW Γ o = false → ops[j]? = some oj → isW Γ oj = true → ordT an k j = false → valA P Γ ops o ⟨T k, H (j + 1)⟩ = some (v k, H (j + 1))
  bck : ∀ k o j oj, i ≤ j → j < k → k < m → ops[k]? = some o → isL o = true → isW Γ o = false → ops[j]? = some oj → isW Γ oj = true → ordT an j k = false → valA P Γ ops o ⟨T k, H j⟩ = some (v k, H j)
  pnd : ∀ x ∈ pend, ∀ j oj, i ≤ j → j < m → ops[j]? = some oj → isW Γ oj = true → ordT an x.1 j = false → SldP P x.2.1 (H (j + 1)) x.2.2.1 x.2.2.2
  hst : ∀ x ∈ hs, ∀ k o, i ≤ k → k < m → ops[k]? = some o → isL o = true → isW Γ o = false → ordT an x.1 k = false → valA P Γ ops o ⟨T k, x.2⟩ = some (v k, x.2)
theorem valA_op {o : Oper} (hg : o.guard = none) {σ : St} {v : AV} {h : Hp} : valA P Γ ops o σ = some (v, h) ↔ aopO P Γ o σ = some (.val v h) := by
  unfold valA
  simp only [hg]
  constructor
  · intro hk
    split at hk
    · rename_i e
      cases hk
      exact e
    · cases hk
  · intro hk
    rw [hk]
theorem aopsW_cons {R : Type} (all : List Oper) (an : List Nat) (o : Oper) (tl : List Oper) (i : Nat) (pend : Pend) (hs : List (Nat × Hp)) (σ : St) (K : Cont R) : aopsW P Γ all an (o :: tl) i pend hs σ K = aop P Γ o σ
      (fun v h => fcd (putA o.dst v σ.tmps) fun ts => bsq (isW Γ o)
        (ckP P an i h pend (aopsW P Γ all an tl (i + 1) pend (hs ++ [(i, σ.heap)]) ⟨ts, h⟩ K))
        (match o.op with
          | .load t x => ckH P an i t (aeval σ.tmps x) v hs (aopsW P Γ all an tl (i + 1) (pend ++ [(i, t, aeval σ.tmps x, v)]) hs ⟨ts, h⟩ K)
          | _ => aopsW P Γ all an tl (i + 1) pend hs ⟨ts, h⟩ K))
      (fun v h => bsq (drl true tl.isEmpty all) none (K (.pan v) ⟨σ.tmps, h⟩)) := rfl
/-- The last operation's panic. -/
def PanW (m : Nat) (σ : St) (v : AV) (h' : Hp) : Prop := PanAt P ops m σ v h' ∧ depOk ops.toList = true
theorem isL_load {o : Oper} (h : isL o = true) : ∃ t x, o.op = .load t x := by
  unfold isL at h
  split at h
  · exact ⟨_, _, ‹_›⟩
  · cases h
theorem load_calm {o : Oper} {t : TypeId} {x : Operand} (h : o.op = .load t x) : calmO Γ o.op = 1 := by rw [h]; rfl
theorem aopsW_run (good : Good P Γ) {R : Type} (an : List Nat) (hg : ∀ (k : Nat) (o : Oper), ops[k]? = some o → o.guard = none) {K : Cont R} {r : R} : ∀ (l : List Oper) (i : Nat) (pend : Pend) (hs : List (Nat × Hp)) (σ : St), ops.toList.drop i = l → aopsW P Γ ops.toList an l i pend hs σ K = some r →
    ∃ m T H v, T i = σ.tmps ∧ H i = σ.heap ∧ Can P Γ ops an pend hs i m T H v ∧ i ≤ m ∧ ((m = i + l.length ∧ K .normal ⟨T m, H m⟩ = some r) ∨ (m + 1 = i + l.length ∧ ∃ v' h', PanW P ops m ⟨T m, H m⟩ v' h' ∧ K (.pan v') ⟨T m, h'⟩ = some r))
  | [], i, pend, hs, σ, hl, hk => ⟨i, fun _ => σ.tmps, fun _ => σ.heap, fun _ => .any, rfl, rfl, ⟨fun k o h1 h2 => absurd h2 (by omega), fun k o j oj h1 h2 h3 => absurd h3 (by omega), fun k o j oj h1 h2 h3 => absurd h3 (by omega), fun x _ j oj h1 h2 => absurd h2 (by omega), fun x _ k o h1 h2 => absurd h2 (by omega)⟩, Nat.le_refl _, .inl ⟨rfl, hk⟩⟩
  | o :: tl, i, pend, hs, σ, hl, hk => by
    have ho : ops[i]? = some o := by
      have := congrArg (fun x => x[0]?) hl
      simpa using this
    have hl' : ops.toList.drop (i + 1) = tl := by
      have := congrArg List.tail hl
      simpa using this
    have hgo := hg i o ho
    rw [aopsW_cons] at hk
    rw [aop_nat] at hk
    cases hO : aopO P Γ o σ with
    | none => rw [hO] at hk; cases hk
    | some out =>
      rw [hO] at hk
      cases out with
      | pan v' h' =>
        have hk : bsq (drl true tl.isEmpty ops.toList) none (K (.pan v') ⟨σ.tmps, h'⟩) = some r := hk
        rcases bsq_inv hk with ⟨_, hk9⟩ | ⟨hd, hk9⟩
        · cases hk9
        · cases tl with
          | cons a b => cases hd
          | nil =>
            refine ⟨i, fun _ => σ.tmps, fun _ => σ.heap, fun _ => .any, rfl, rfl, ⟨fun k o h1 h2 => absurd h2 (by omega), fun k o j oj h1 h2 h3 => absurd h3 (by omega), fun k o j oj h1 h2 h3 => absurd h3 (by omega), fun x _ j oj h1 h2 => absurd h2 (by omega), fun x _ k o h1 h2 => absurd h2 (by omega)⟩, Nat.le_refl _, .inr ⟨rfl, v', h', ⟨?_, by simpa [drl] using hd⟩, hk9⟩⟩
            intro rr nn B a w hS K2
            have hnd := aop_nodefer (R := Out) hO
            unfold aopO at hO
            rcases aop_sound (ts := σ.tmps) (h := σ.heap) good hO with ⟨v2, h2, e, H⟩ | ⟨v2, h2, e, H⟩
            · cases e
            · cases e
              unfold wpOpIn
              simp only [ho, Region.wanted, hgo, if_true]
              exact opPan_wpIn H hnd hS fun x a' w' hx => hx
      | val v0 h0 =>
        have hk : (fcd (putA o.dst v0 σ.tmps) fun ts => bsq (isW Γ o)
          (ckP P an i h0 pend (aopsW P Γ ops.toList an tl (i + 1) pend (hs ++ [(i, σ.heap)]) ⟨ts, h0⟩ K))
          (match o.op with
            | .load t x => ckH P an i t (aeval σ.tmps x) v0 hs (aopsW P Γ ops.toList an tl (i + 1) (pend ++ [(i, t, aeval σ.tmps x, v0)]) hs ⟨ts, h0⟩ K)
            | _ => aopsW P Γ ops.toList an tl (i + 1) pend hs ⟨ts, h0⟩ K)) = some r := hk
        rw [fcd_eq] at hk
        have mk : ∀ (pend' : Pend) (hs' : List (Nat × Hp)) (m : Nat) (T : Nat → List AV) (H : Nat → Hp) (v : Nat → AV), T (i + 1) = putA o.dst v0 σ.tmps → H (i + 1) = h0 → Can P Γ ops an pend' hs' (i + 1) m T H v →
            (∀ x ∈ pend, x ∈ pend') → (∀ x ∈ hs, x ∈ hs') → (isW Γ o = true → (i, σ.heap) ∈ hs') → (isL o = true → isW Γ o = false → ∃ t x, o.op = .load t x ∧ (i, t, aeval σ.tmps x, v0) ∈ pend') →
            (isW Γ o = true → ∀ x ∈ pend, ordT an x.1 i = false → SldP P x.2.1 h0 x.2.2.1 x.2.2.2) → (isL o = true → isW Γ o = false → ∀ x ∈ hs, ordT an x.1 i = false → valA P Γ ops o ⟨σ.tmps, x.2⟩ = some (v0, x.2)) →
            Can P Γ ops an pend hs i m (fun k => if k = i then σ.tmps else T k) (fun k => if k = i then σ.heap else H k) (fun k => if k = i then v0 else v k) := by
          intro pend' hs' m T H v hT hH C p1 p2 p3 p4 p5 p6
          have hv0 : valA P Γ ops o σ = some (v0, h0) := (valA_op P Γ ops hgo).2 hO
          refine ⟨?_, ?_, ?_, ?_, ?_⟩
          · intro k o' h1 h2 hk'
            by_cases e : k = i
            · subst e
              rw [ho] at hk'
              cases hk'
              simp only [if_true, if_neg (show k + 1 ≠ k by omega), hT, hH]
              exact ⟨hv0, trivial⟩
            · simp only [if_neg e, if_neg (show k + 1 ≠ i by omega)]
              exact C.step k o' (by omega) h2 hk'
          · intro k o' j oj h1 h2 h3 hk' hL hW hj hWj hn
            simp only [if_neg (show j + 1 ≠ i by omega)]
            by_cases e : k = i
            · subst e
              rw [ho] at hk'
              cases hk'
              obtain ⟨t, x, hx, hm⟩ := p4 hL hW
              have h4 := C.pnd _ hm j oj (by omega) h3 hj hWj hn
              have e0 := aop_reads P Γ o (load_calm Γ hx) hO
              subst e0
              simp only [if_true]
              exact (valA_op P Γ ops hgo).2 (sld_val P Γ hx hO h4)
            · simp only [if_neg e]
              exact C.fwd k o' j oj (by omega) h2 h3 hk' hL hW hj hWj hn
          · intro k o' j oj h1 h2 h3 hk' hL hW hj hWj hn
            simp only [if_neg (show k ≠ i by omega)]
            by_cases e : j = i
            · subst e
              rw [ho] at hj
              cases hj
              simp only [if_true]
              exact C.hst _ (p3 hWj) k o' (by omega) h3 hk' hL hW hn
            · simp only [if_neg e]
              exact C.bck k o' j oj (by omega) h2 h3 hk' hL hW hj hWj hn
          · intro x hx j oj h1 h2 hj hWj hn
            simp only [if_neg (show j + 1 ≠ i by omega)]
            by_cases e : j = i
            · subst e
              rw [ho] at hj
              cases hj
              rw [hH]
              exact p5 hWj x hx hn
            · exact C.pnd x (p1 x hx) j oj (by omega) h2 hj hWj hn
          · intro x hx k o' h1 h2 hk' hL hW hn
            by_cases e : k = i
            · subst e
              rw [ho] at hk'
              cases hk'
              simp only [if_true]
              exact p6 hL hW x hx hn
            · simp only [if_neg e]
              exact C.hst x (p2 x hx) k o' (by omega) h2 hk' hL hW hn
        have go : ∀ (pend' : Pend) (hs' : List (Nat × Hp)), aopsW P Γ ops.toList an tl (i + 1) pend' hs' ⟨putA o.dst v0 σ.tmps, h0⟩ K = some r →
            (∀ x ∈ pend, x ∈ pend') → (∀ x ∈ hs, x ∈ hs') → (isW Γ o = true → (i, σ.heap) ∈ hs') → (isL o = true → isW Γ o = false → ∃ t x, o.op = .load t x ∧ (i, t, aeval σ.tmps x, v0) ∈ pend') →
            (isW Γ o = true → ∀ x ∈ pend, ordT an x.1 i = false → SldP P x.2.1 h0 x.2.2.1 x.2.2.2) → (isL o = true → isW Γ o = false → ∀ x ∈ hs, ordT an x.1 i = false → valA P Γ ops o ⟨σ.tmps, x.2⟩ = some (v0, x.2)) →
            ∃ m T H v, T i = σ.tmps ∧ H i = σ.heap ∧ Can P Γ ops an pend hs i m T H v ∧ i ≤ m ∧ ((m = i + (o :: tl).length ∧ K .normal ⟨T m, H m⟩ = some r) ∨ (m + 1 = i + (o :: tl).length ∧ ∃ v' h', PanW P ops m ⟨T m, H m⟩ v' h' ∧ K (.pan v') ⟨T m, h'⟩ = some r)) := by
          intro pend' hs' hk' p1 p2 p3 p4 p5 p6
          obtain ⟨m, T, H, v, e1, e2, C, hm, hfin⟩ := aopsW_run good an hg tl (i + 1) pend' hs' _ hl' hk'
          refine ⟨m, _, _, _, by simp, by simp, mk pend' hs' m T H v e1 e2 C p1 p2 p3 p4 p5 p6, by omega, ?_⟩
          simp only [if_neg (show m ≠ i by omega), List.length_cons]
          rcases hfin with ⟨h1, h2⟩ | ⟨h1, h2⟩
          · exact .inl ⟨by omega, h2⟩
          · exact .inr ⟨by omega, h2⟩
        rcases bsq_inv hk with ⟨hW, hk⟩ | ⟨hW, hk⟩
        · obtain ⟨hc, hk⟩ := ckP_inv P hk
          refine go _ _ hk (fun _ h => h) (fun _ h => List.mem_append_left _ h) (fun _ => by simp) (fun _ h => ?_) (fun _ => hc) (fun _ h => ?_)
          · rw [hW] at h; cases h
          · rw [hW] at h; cases h
        · split at hk
          · rename_i t x hx
            obtain ⟨hc, hk⟩ := ckH_inv P hk
            have e0 := aop_reads P Γ o (load_calm Γ hx) hO
            subst e0
            refine go _ _ hk (fun _ h => List.mem_append_left _ h) (fun _ h => h) (fun h => ?_) (fun _ _ => ⟨t, x, hx, by simp⟩) (fun h => ?_) (fun _ _ y hy hn => (valA_op P Γ ops hgo).2 (sld_val P Γ hx hO (hc y hy hn)))
            · rw [hW] at h; cases h
            · rw [hW] at h; cases h
          · rename_i hno
            refine go _ _ hk (fun _ h => h) (fun _ h => h) (fun h => ?_) (fun h => ?_) (fun h => ?_) (fun h => ?_)
            · rw [hW] at h; cases h
            · obtain ⟨t, x, hx⟩ := isL_load h
              exact absurd hx (hno t x)
            · rw [hW] at h; cases h
            · obtain ⟨t, x, hx⟩ := isL_load h
              exact absurd hx (hno t x)
/-! ### Any order -/
def dstA (k : Nat) : Option Tmp := (ops[k]?).bind (·.dst)
noncomputable def TD (T0 : List AV) (v : Nat → AV) (D : Nat → Bool) : Nat → List AV
  | 0 => T0
  | k + 1 => if D k = true then putA (dstA ops k) (v k) (TD T0 v D k) else TD T0 v D k
def hp (D : Nat → Bool) (Wf : Nat → Bool) : Nat → Nat
  | 0 => 0
  | k + 1 => if D k = true ∧ Wf k = true then k + 1 else hp D Wf k
variable {T0 : List AV} {v : Nat → AV}
theorem putA_len {d : Option Tmp} {x : AV} {l : List AV} : (putA d x l).length = l.length := by
  cases d <;> simp [putA, tset_eq]
theorem TD_len (D : Nat → Bool) : ∀ n, (TD ops T0 v D n).length = T0.length
  | 0 => rfl
  | n + 1 => by
    unfold TD
    split
    · rw [putA_len, TD_len D n]
    · exact TD_len D n
theorem getD_put_same {d : Option Tmp} {x : AV} {l l' : List AV} {t : Nat} (hl : l.length = l'.length) (h : l.getD t .any = l'.getD t .any) : (putA d x l).getD t .any = (putA d x l').getD t .any := by
  cases d with
  | none => exact h
  | some d =>
    simp only [putA, tset_eq, List.getD_eq_getElem?_getD, List.getElem?_set] at h ⊢
    by_cases e : d = t
    · subst e
      simp [hl]
    · simp only [if_neg e]
      exact h
theorem TD_get {D D' : Nat → Bool} {t : Nat} : ∀ n, (∀ k, k < n → D k ≠ D' k → ∀ d, dstA ops k = some d → d ≠ t) → (TD ops T0 v D n).getD t .any = (TD ops T0 v D' n).getD t .any
  | 0, _ => rfl
  | n + 1, h => by
    have ih := TD_get n fun k hk => h k (by omega)
    unfold TD
    cases h1 : D n <;> cases h2 : D' n <;> simp only [if_true, Bool.false_eq_true, if_false]
    · exact ih
    · rw [getD_put (h n (by omega) (by rw [h1, h2]; decide))]; exact ih
    · rw [getD_put (h n (by omega) (by rw [h1, h2]; decide))]; exact ih
    · exact getD_put_same (by rw [TD_len, TD_len]) ih
theorem TD_low {D D' : Nat → Bool} : ∀ n, (∀ k, k < n → D k = D' k) → TD ops T0 v D n = TD ops T0 v D' n
  | 0, _ => rfl
  | n + 1, h => by
    unfold TD
    rw [h n (by omega), TD_low n fun k hk => h k (by omega)]
theorem TD_cut {i : Nat} : ∀ n, i ≤ n → TD ops T0 v (fun k => decide (k < i)) n = TD ops T0 v (fun _ => true) i
  | 0, h => by
    have : i = 0 := by omega
    subst this
    rfl
  | n + 1, h => by
    by_cases e : i = n + 1
    · subst e
      exact TD_low ops _ fun k hk => by simp [hk]
    · have ih := TD_cut (i := i) n (by omega)
      rw [TD, if_neg (by simp; omega)]
      exact ih
theorem TD_add {D : Nat → Bool} {i : Nat} (hi : D i = false) : ∀ n, i < n → (∀ k, i < k → k < n → D k = true → ∀ d, dstA ops k = some d → dstA ops i ≠ some d) →
    TD ops T0 v (fun k => D k || decide (k = i)) n = putA (dstA ops i) (v i) (TD ops T0 v D n)
  | 0, h, _ => by omega
  | n + 1, h, hd => by
    by_cases e : i = n
    · subst e
      rw [TD, TD, if_pos (by simp), if_neg (by rw [hi]; decide), TD_low ops i (D' := D) fun k hk => by simp; omega]
    · have ih := TD_add hi n (by omega) fun k h1 h2 => hd k h1 (by omega)
      rw [TD, ih]
      conv => rhs; rw [TD]
      cases h1 : D n
      · simp only [Bool.false_or, decide_eq_true_eq, if_neg (show ¬ n = i by omega), Bool.false_eq_true, if_false]
      · simp only [Bool.true_or, if_true]
        exact putA_comm _ _ (fun d hdi hdn => hd n (by omega) (by omega) h1 d hdn hdi)
theorem valA_look {o : Oper} (hg : o.guard = none) {ts ts' : List AV} {h : Hp} (hl : ∀ t ∈ o.looksAt ops, ts.getD t .any = ts'.getD t .any) : valA P Γ ops o ⟨ts, h⟩ = valA P Γ ops o ⟨ts', h⟩ := by
  have h1 : aopO P Γ o ⟨ts, h⟩ = aopO P Γ o ⟨ts', h⟩ := aop_congr P Γ o h fun x hx => by
    cases x with
    | tmp t =>
      simp only [aeval, tget_eq]
      refine hl t ?_
      unfold Oper.looksAt
      exact List.mem_append_left _ (List.mem_filterMap.2 ⟨_, Array.mem_toList_iff.2 hx, rfl⟩)
    | _ => rfl
  unfold valA
  simp only [h1, hg]
theorem ancs_snoc (l : List Oper) (o : Oper) : ancs (l ++ [o]) = ancs l ++ [ancM (ancs l) o] := by
  simp [ancs, List.foldl_append]
theorem snoc_ind {α : Type} {p : List α → Prop} (h0 : p []) (h1 : ∀ l a, p l → p (l ++ [a])) (l : List α) : p l := by
  rw [← List.reverse_reverse l]
  induction l.reverse with
  | nil => exact h0
  | cons a l ih => rw [List.reverse_cons]; exact h1 _ _ ih
theorem ancs_len : ∀ (l : List Oper), (ancs l).length = l.length := by
  intro l
  refine snoc_ind (p := fun l => (ancs l).length = l.length) rfl (fun l o ih => ?_) l
  rw [ancs_snoc]; simp [ih]
theorem ancs_pre (l : List Oper) : ∀ (l2 : List Oper) (k : Nat), k < l.length → (ancs (l ++ l2)).getD k 0 = (ancs l).getD k 0 := by
  intro l2
  refine snoc_ind (p := fun l2 => ∀ k, k < l.length → (ancs (l ++ l2)).getD k 0 = (ancs l).getD k 0) ?_ ?_ l2
  · intro k _; rw [List.append_nil]
  · intro l2 o ih k hk
    rw [← List.append_assoc, ancs_snoc]
    have hlt : k < (ancs (l ++ l2)).length := by rw [ancs_len]; simp; omega
    rw [← ih k hk]
    simp only [List.getD_eq_getElem?_getD, List.getElem?_append_left hlt]
theorem ancM_bit {acc : List Nat} {o : Oper} {k : Nat} (h : Nat.testBit (ancM acc o) k = true) : ∃ e ∈ o.after, Region.binds .any e = true ∧ (e.on = k ∨ Nat.testBit (acc.getD e.on 0) k = true) := by
  have key : ∀ l : List Edge, Nat.testBit (l.foldr (fun e m => bif Region.binds .any e then 2 ^ e.on ||| (acc.getD e.on 0 ||| m) else m) 0) k = true → ∃ e ∈ l, Region.binds .any e = true ∧ (e.on = k ∨ Nat.testBit (acc.getD e.on 0) k = true) := by
    intro l
    induction l with
    | nil => intro h; simp at h
    | cons e l ih =>
      intro h
      rw [List.foldr_cons] at h
      cases hb : Region.binds .any e with
      | false =>
        rw [hb, cond_false] at h
        obtain ⟨e', h1, h2⟩ := ih h
        exact ⟨e', List.mem_cons_of_mem _ h1, h2⟩
      | true =>
        rw [hb, cond_true, Nat.testBit_or, Nat.testBit_or, Bool.or_eq_true, Bool.or_eq_true] at h
        rcases h with h | h | h
        · rw [Nat.testBit_two_pow] at h
          exact ⟨e, by simp, hb, .inl (by simpa using h)⟩
        · exact ⟨e, by simp, hb, .inr h⟩
        · obtain ⟨e', h1, h2⟩ := ih h
          exact ⟨e', List.mem_cons_of_mem _ h1, h2⟩
  obtain ⟨e, h1, h2⟩ := key o.after.toList h
  exact ⟨e, Array.mem_toList_iff.1 h1, h2⟩
theorem ord_dir {j k : Nat} {o : Oper} (ho : ops[j]? = some o) (h : ordT (ancs ops.toList) k j = true) : ∃ e ∈ o.after, Region.binds .any e = true ∧ (e.on = k ∨ (e.on < j ∧ ordT (ancs ops.toList) k e.on = true)) := by
  have hj := (Array.getElem?_eq_some_iff.1 ho).1
  have hsplit : ops.toList = (ops.toList.take j ++ [o]) ++ ops.toList.drop (j + 1) := by
    have h1 : ops.toList[j]? = some o := by rw [Array.getElem?_toList]; exact ho
    have h2 : j < ops.toList.length := by simpa using hj
    rw [List.getElem?_eq_getElem h2, Option.some.injEq] at h1
    rw [← h1, List.append_assoc, List.singleton_append, ← List.drop_eq_getElem_cons h2, List.take_append_drop]
  have hlen : (ops.toList.take j).length = j := by simp; omega
  have e1 : (ancs ops.toList).getD j 0 = ancM (ancs (ops.toList.take j)) o := by
    conv => lhs; rw [hsplit]
    rw [ancs_pre _ _ j (by simp; omega), ancs_snoc, List.getD_eq_getElem?_getD, List.getElem?_append_right (by rw [ancs_len]; omega)]
    simp [ancs_len, hlen]
  unfold ordT at h ⊢
  rw [e1] at h
  obtain ⟨e, h1, h2, h3⟩ := ancM_bit h
  refine ⟨e, h1, h2, h3.imp id fun h4 => ?_⟩
  by_cases hlt : e.on < j
  · refine ⟨hlt, ?_⟩
    have := ancs_pre (ops.toList.take j) ([o] ++ ops.toList.drop (j + 1)) e.on (by omega)
    rw [← List.append_assoc, ← hsplit] at this
    rw [this]
    exact h4
  · rw [List.getD_eq_getElem?_getD, List.getElem?_eq_none (by rw [ancs_len]; omega)] at h4
    simp at h4
theorem ord_dn {D : Nat → Bool} (hc : ∀ (j : Nat) (oj : Oper), ops[j]? = some oj → D j = true → ∀ e ∈ oj.after, Region.binds .any e = true → D e.on = true) : ∀ (j k : Nat) (o : Oper), ops[j]? = some o → ordT (ancs ops.toList) k j = true → (∀ e ∈ o.after, Region.binds .any e = true → D e.on = true) → D k = true := by
  intro j
  induction j using Nat.strongRecOn with
  | _ j ih =>
    intro k o ho h hd
    obtain ⟨e, h1, h2, h3⟩ := ord_dir ops ho h
    rcases h3 with rfl | ⟨h3, h4⟩
    · exact hd e h1 h2
    · have hlt : e.on < ops.size := by have := (Array.getElem?_eq_some_iff.1 ho).1; omega
      have he := Array.getElem?_eq_getElem hlt
      exact ih e.on h3 k _ he h4 (hc _ _ he (hd e h1 h2))
theorem getD_setIf {l : Array Bool} {n i j : Nat} (hs : l.size = n) (hi : i < n) (b : Bool) : (l.setIfInBounds i true).getD j b = if j = i then true else l.getD j b := by
  by_cases e : j = i
  · subst e
    simp [Array.getD, hs, hi]
  · rw [if_neg e, getD_set_ne b (fun h => e h.symm)]
theorem lex_from : ∀ (n k : Nat) (listed : Array Bool), k + n = ops.size → listed.size = ops.size → (∀ j, listed.getD j false = decide (j < k)) → (∀ j, j < ops.size → listed.getD j true = decide (j < k)) → Region.lexFrom .any ops n k listed = true →
    (∀ (j : Nat) (o : Oper), k ≤ j → ops[j]? = some o → ∀ e ∈ o.after, Region.binds .any e = true → e.on < j) ∧ (∀ (i j : Nat) (oi oj : Oper), k ≤ i → i < j → ops[i]? = some oi → ops[j]? = some oj → (∀ e ∈ oj.after, Region.binds .any e = true → e.on ≠ i) → oi.apart ops oj = true)
  | 0, k, listed, hk, _, _, _, _ => ⟨fun j o hj ho => by have := (Array.getElem?_eq_some_iff.1 ho).1; omega, fun i j oi oj hi hj ho => by have := (Array.getElem?_eq_some_iff.1 ho).1; omega⟩
  | n + 1, k, listed, hk, hsz, hl, hl', hB => by
    rw [Region.lexFrom] at hB
    simp only [Bool.and_eq_true] at hB
    obtain ⟨⟨hr, hf⟩, hB'⟩ := hB
    have hr' : k ∈ Region.ready .any ops listed := by simpa using hr
    obtain ⟨_, ok, hok, hall⟩ := mem_ready.1 hr'
    have h2 := lex_from n (k + 1) (listed.setIfInBounds k true) (by omega) (by simpa using hsz) (fun j => by
      rw [getD_setIf hsz (by omega), hl j]
      by_cases e : j = k
      · simp [e]
      · rw [if_neg e]; congr 1; simp; omega) (fun j hj => by
      rw [getD_setIf hsz (by omega), hl' j hj]
      by_cases e : j = k
      · simp [e]
      · rw [if_neg e]; congr 1; simp; omega) hB'
    refine ⟨fun j o hj ho e he hb => ?_, fun i j oi oj hi hij hoi hoj hno => ?_⟩
    · by_cases e2 : j = k
      · subst e2
        rw [hok] at ho
        cases ho
        have := hall e he hb
        rw [hl] at this
        simpa using this
      · exact h2.1 j o (by omega) ho e he hb
    · by_cases e2 : i = k
      · subst e2
        have hjl := (Array.getElem?_eq_some_iff.1 hoj).1
        exact Region.free_spec hoi hf j oj hoj (by omega) (by rw [hl' j hjl]; simp; omega) hno
      · exact h2.2 i j oi oj (by omega) hij hoi hoj hno
theorem dqL_spec (c : Oper → Oper → Bool) : ∀ (l : List Oper) (pre : List (Nat × Oper)) (j : Nat), (∀ i o, (i, o) ∈ pre ↔ i < j ∧ ops.toList[i]? = some o) → (∀ k, l[k]? = ops.toList[j + k]?) → dqL c ops l pre j = true →
    ∀ (jj : Nat) (oj : Oper), j ≤ jj → ops[jj]? = some oj → (∀ e ∈ oj.after, Region.binds .any e = true → e.on < jj) ∧ ∀ (i : Nat) (oi : Oper), i < jj → ops[i]? = some oi → (∀ e ∈ oj.after, Region.binds .any e = true → e.on ≠ i) → oi.apart ops oj = true ∧ c oi oj = true
  | [], pre, j, hp, hl, _, jj, oj, hj, ho => by
    have h1 := hl (jj - j)
    have h2 : ops.toList[jj]? = some oj := by rw [Array.getElem?_toList]; exact ho
    rw [show j + (jj - j) = jj by omega, h2] at h1
    simp at h1
  | o :: l, pre, j, hp, hl, h, jj, oj, hj, ho => by
    have h : ((o.after.toList.all fun e => !Region.binds .any e || Nat.blt e.on j) && (pre.all (fun x => dqPair c ops x.2 o x.1) && dqL c ops l ((j, o) :: pre) (Nat.succ j))) = true := h
    simp only [Bool.and_eq_true] at h
    obtain ⟨h1, h2, h3⟩ := h
    have h0 : ops.toList[j]? = some o := by
      have := hl 0
      simpa using this.symm
    by_cases e : jj = j
    · subst e
      rw [Array.getElem?_toList, ho] at h0
      cases h0
      refine ⟨fun e he hb => ?_, fun i oi hi hoi hno => ?_⟩
      · have := List.all_eq_true.1 h1 e (Array.mem_toList_iff.2 he)
        simpa [hb] using this
      · have := List.all_eq_true.1 h2 (i, oi) ((hp i oi).2 ⟨hi, by rw [Array.getElem?_toList]; exact hoi⟩)
        unfold dqPair at this
        simp only [Bool.or_eq_true, Bool.and_eq_true] at this
        rcases this with h4 | h4
        · rw [List.any_eq_true] at h4
          obtain ⟨e, he, hb⟩ := h4
          simp only [Bool.and_eq_true, Nat.beq_eq] at hb
          exact absurd hb.2 (hno e (Array.mem_toList_iff.1 he) hb.1)
        · exact h4
    · refine dqL_spec c l ((j, o) :: pre) (Nat.succ j) (fun i x => ?_) (fun k => ?_) h3 jj oj (by omega) ho
      · rw [List.mem_cons, hp]
        constructor
        · rintro (e | ⟨h4, h5⟩)
          · cases e
            exact ⟨Nat.lt_succ_self _, h0⟩
          · exact ⟨Nat.lt_succ_of_lt h4, h5⟩
        · rintro ⟨h4, h5⟩
          by_cases e : i = j
          · subst e
            rw [h0] at h5
            cases h5
            exact .inl rfl
          · exact .inr ⟨by omega, h5⟩
      · have := hl (k + 1)
        rw [List.getElem?_cons_succ] at this
        rw [this]
        congr 1
        omega
theorem lexFrom_of (l1 : ∀ (j : Nat) (o : Oper), ops[j]? = some o → ∀ e ∈ o.after, Region.binds .any e = true → e.on < j) (l2 : ∀ (i j : Nat) (oi oj : Oper), i < j → ops[i]? = some oi → ops[j]? = some oj → (∀ e ∈ oj.after, Region.binds .any e = true → e.on ≠ i) → oi.apart ops oj = true) :
    ∀ (n k : Nat) (listed : Array Bool), k + n = ops.size → listed.size = ops.size → (∀ j b, j < ops.size → listed.getD j b = decide (j < k)) → Region.lexFrom .any ops n k listed = true
  | 0, k, listed, hk, hs, hl => by
    rw [Region.lexFrom, List.isEmpty_iff, List.eq_nil_iff_forall_not_mem]
    intro i hi
    obtain ⟨hun, o, ho, _⟩ := mem_ready.1 hi
    have hil := (Array.getElem?_eq_some_iff.1 ho).1
    rw [hl i true hil] at hun
    simp at hun
    omega
  | n + 1, k, listed, hk, hs, hl => by
    have hkl : k < ops.size := by omega
    have ho := Array.getElem?_eq_getElem hkl
    rw [Region.lexFrom]
    simp only [Bool.and_eq_true]
    refine ⟨⟨?_, ?_⟩, lexFrom_of l1 l2 n (k + 1) _ (by omega) (by simpa using hs) fun j b hj => ?_⟩
    · have : k ∈ Region.ready .any ops listed := mem_ready.2 ⟨by rw [hl k true hkl]; simp, _, ho, fun e he hb => by
        have := l1 k _ ho e he hb
        rw [hl e.on false (by omega)]
        simpa using this⟩
      simpa using this
    · unfold Region.free
      simp only [ho, List.all_eq_true, List.mem_range]
      intro j hj
      by_cases h1 : j < k
      · rw [hl j true hj]; simp [h1]
      · by_cases h2 : j = k
        · simp [h2]
        · have hoj := Array.getElem?_eq_getElem hj
          simp only [hoj]
          by_cases h3 : ∃ e ∈ (ops[j]).after, Region.binds .any e = true ∧ e.on = k
          · obtain ⟨e, he, hb, hon⟩ := h3
            have : (ops[j]).after.any (fun e => Region.binds .any e && e.on == k) = true := Array.any_eq_true'.2 ⟨e, he, by simp [hb, hon]⟩
            rw [this]
            simp
          · have := l2 k j _ _ (by omega) ho hoj fun e he hb hon => h3 ⟨e, he, hb, hon⟩
            rw [this]
            simp
    · rw [getD_setIf hs hkl, hl j b hj]
      by_cases e : j = k
      · simp [e]
      · rw [if_neg e]
        congr 1
        simp only [eq_iff_iff]
        omega
theorem calmFrom_of (l2 : ∀ (i j : Nat) (oi oj : Oper), i < j → ops[i]? = some oi → ops[j]? = some oj → (∀ e ∈ oj.after, Region.binds .any e = true → e.on ≠ i) → calmPair (calmO Γ oi.op) (calmO Γ oj.op) = true) :
    ∀ (n k : Nat) (listed : Array Bool), k + n = ops.size → listed.size = ops.size → (∀ j b, j < ops.size → listed.getD j b = decide (j < k)) → calmFrom Γ ops n k listed = true
  | 0, k, listed, hk, hs, hl => by rw [calmFrom]
  | n + 1, k, listed, hk, hs, hl => by
    have hkl : k < ops.size := by omega
    have ho := Array.getElem?_eq_getElem hkl
    rw [calmFrom]
    simp only [Bool.and_eq_true]
    refine ⟨?_, calmFrom_of l2 n (k + 1) _ (by omega) (by simpa using hs) fun j b hj => ?_⟩
    · unfold calmAt
      simp only [ho, List.all_eq_true, List.mem_range]
      intro j hj
      by_cases h1 : j < k
      · rw [hl j true hj]; simp [h1]
      · by_cases h2 : j = k
        · simp [h2]
        · have hoj := Array.getElem?_eq_getElem hj
          simp only [hoj]
          by_cases h3 : ∃ e ∈ (ops[j]).after, Region.binds .any e = true ∧ e.on = k
          · obtain ⟨e, he, hb, hon⟩ := h3
            have : (ops[j]).after.any (fun e => Region.binds .any e && e.on == k) = true := Array.any_eq_true'.2 ⟨e, he, by simp [hb, hon]⟩
            rw [this]
            simp
          · have := l2 k j _ _ (by omega) ho hoj fun e he hb hon => h3 ⟨e, he, hb, hon⟩
            rw [this]
            simp
    · rw [getD_setIf hs hkl, hl j b hj]
      by_cases e : j = k
      · simp [e]
      · rw [if_neg e]
        congr 1
        simp only [eq_iff_iff]
        omega
theorem dq_all {c : Oper → Oper → Bool} (h : dqL c ops ops.toList [] 0 = true) : ∀ (jj : Nat) (oj : Oper), 0 ≤ jj → ops[jj]? = some oj → (∀ e ∈ oj.after, Region.binds .any e = true → e.on < jj) ∧ ∀ (i : Nat) (oi : Oper), i < jj → ops[i]? = some oi → (∀ e ∈ oj.after, Region.binds .any e = true → e.on ≠ i) → oi.apart ops oj = true ∧ c oi oj = true := dqL_spec ops c ops.toList [] 0 (fun i o => by simp) (fun k => by rw [Nat.zero_add]) h
theorem lexB_of {c : Oper → Oper → Bool} (hn : Region.noSelect ops = true) (h : dqL c ops ops.toList [] 0 = true) : Region.lexB .any ops = true := by
  have k := dq_all ops h
  simp only [Region.lexB, Bool.and_eq_true]
  exact ⟨hn, lexFrom_of ops (fun j o ho => (k j o (Nat.zero_le _) ho).1) (fun i j oi oj hi hoi hoj hno => ((k j oj (Nat.zero_le _) hoj).2 i oi hi hoi hno).1) ops.size 0 _ (by simp) (by simp) (fun j b hj => by simp [Array.getD, hj])⟩
theorem lexQ_ok (h : lexQ ops = true) : Region.lexB .any ops = true := by
  simp only [lexQ, Bool.and_eq_true] at h
  exact lexB_of ops h.1 h.2
theorem drawQ_ok (h : drawQ Γ ops = true) : drawOk Γ ops = true := by
  simp only [drawQ, Bool.and_eq_true] at h
  have k := dq_all ops h.2
  simp only [drawOk, Bool.and_eq_true]
  exact ⟨lexB_of ops h.1 h.2, calmFrom_of Γ ops (fun i j oi oj hi hoi hoj hno => ((k j oj (Nat.zero_le _) hoj).2 i oi hi hoi hno).2) ops.size 0 _ (by simp) (by simp) (fun j b hj => by simp [Array.getD, hj])⟩
theorem lex_of (h : Region.lexB .any ops = true) : (∀ (j : Nat) (o : Oper), ops[j]? = some o → ∀ e ∈ o.after, Region.binds .any e = true → e.on < j) ∧ (∀ (i j : Nat) (oi oj : Oper), i < j → ops[i]? = some oi → ops[j]? = some oj → (∀ e ∈ oj.after, Region.binds .any e = true → e.on ≠ i) → oi.apart ops oj = true) := by
  have := lex_from ops ops.size 0 (Array.replicate ops.size false) (by simp) (by simp) (fun j => by simp [Array.getD]) (fun j hj => by simp [Array.getD, hj]) (by simp only [Region.lexB, Bool.and_eq_true] at h; exact h.2)
  exact ⟨fun j o => this.1 j o (Nat.zero_le _), fun i j oi oj => this.2 i j oi oj (Nat.zero_le _)⟩
def Wf (k : Nat) : Bool := match ops[k]? with | some o => isW Γ o | none => false
theorem wOk_spec (h : wOk Γ ops (ancs ops.toList) = true) : Region.lexB .any ops = true ∧ (∀ (k : Nat) (o : Oper), ops[k]? = some o → o.guard = none) ∧
    ∀ (i j : Nat) (oi oj : Oper), ops[i]? = some oi → ops[j]? = some oj → isW Γ oj = true → i ≠ j → ordT (ancs ops.toList) i j = true ∨ ordT (ancs ops.toList) j i = true ∨ (isW Γ oi = false ∧ (calmO Γ oi.op = 0 ∨ isL oi = true)) := by
  unfold wOk at h
  simp only [Bool.and_eq_true, List.all_eq_true, List.mem_range, lget_eq] at h
  obtain ⟨⟨h1, h2⟩, h3⟩ := h
  refine ⟨lexQ_ok ops h1, fun k o ho => ?_, fun i j oi oj hi hj hW hne => ?_⟩
  · have := h2 o (by rw [Array.mem_toList_iff]; exact Array.mem_of_getElem? ho)
    simpa using this
  · have h4 := h3 j (Array.getElem?_eq_some_iff.1 hj).1
    rw [Array.getElem?_toList, hj] at h4
    simp only [hW, Bool.not_true, Bool.false_or, List.all_eq_true, List.mem_range] at h4
    have h5 := h4 i (Array.getElem?_eq_some_iff.1 hi).1
    rw [Array.getElem?_toList, hi] at h5
    simp only [wPair, Bool.or_eq_true, Bool.and_eq_true, beq_iff_eq, Bool.not_eq_true'] at h5
    rcases h5 with ((h5 | h5) | h5) | ⟨h5, h6⟩
    · exact absurd h5 hne
    · exact .inl h5
    · exact .inr (.inl h5)
    · exact .inr (.inr ⟨h5, h6⟩)
theorem ord_lt (hl : ∀ (j : Nat) (o : Oper), ops[j]? = some o → ∀ e ∈ o.after, Region.binds .any e = true → e.on < j) : ∀ (j k : Nat) (o : Oper), ops[j]? = some o → ordT (ancs ops.toList) k j = true → k < j := by
  intro j
  induction j using Nat.strongRecOn with
  | _ j ih =>
    intro k o ho h
    obtain ⟨e, h1, h2, h3⟩ := ord_dir ops ho h
    have hlt := hl j o ho e h1 h2
    rcases h3 with rfl | ⟨h3, h4⟩
    · exact hlt
    · have hs : e.on < ops.size := by have := (Array.getElem?_eq_some_iff.1 ho).1; omega
      have := ih e.on h3 k _ (Array.getElem?_eq_getElem hs) h4
      omega
theorem nonW {o : Oper} (h : isW Γ o = false) : calmO Γ o.op = 0 ∨ calmO Γ o.op = 1 := by
  unfold isW at h
  have : ¬ 2 ≤ calmO Γ o.op := fun h2 => by rw [Nat.ble_eq_true_of_le h2] at h; cases h
  omega
theorem nonW_heap {o : Oper} (h : isW Γ o = false) {ts : List AV} {h1 h2 : Hp} {u : AV} (hv : valA P Γ ops o ⟨ts, h1⟩ = some (u, h2)) : h2 = h1 := by
  rcases nonW Γ h with hc | hc
  · exact (valA_free P Γ ops hc hv).1
  · exact valA_reads P Γ ops hc hv
theorem hp_no {D W : Nat → Bool} {q : Nat} : ∀ n, q ≤ n → (∀ k, q ≤ k → k < n → D k = true → W k = true → False) → hp D W n = hp D W q
  | 0, h, _ => by
    have : q = 0 := by omega
    rw [this]
  | n + 1, h, hn => by
    by_cases e : q = n + 1
    · rw [e]
    · rw [hp, if_neg (fun hh => hn n (by omega) (by omega) hh.1 hh.2), hp_no n (by omega) fun k h1 h2 => hn k h1 (by omega)]
theorem hp_congr {D D' W : Nat → Bool} : ∀ n, (∀ k, k < n → ((D k = true ∧ W k = true) ↔ (D' k = true ∧ W k = true))) → hp D W n = hp D' W n
  | 0, _ => rfl
  | n + 1, h => by
    have ih := hp_congr n fun k hk => h k (by omega)
    unfold hp
    by_cases e : D n = true ∧ W n = true
    · rw [if_pos e, if_pos ((h n (by omega)).1 e)]
    · rw [if_neg e, if_neg (fun h2 => e ((h n (by omega)).2 h2)), ih]
variable {P Γ ops}
section
variable {m : Nat} {T : Nat → List AV} {H : Nat → Hp} (hok : wOk Γ ops (ancs ops.toList) = true) (hm : m ≤ ops.size) (C : Can P Γ ops (ancs ops.toList) [] [] 0 m T H v)
include hm C
theorem Can.at {k : Nat} (hk : k < m) : ∃ o, ops[k]? = some o ∧ valA P Γ ops o ⟨T k, H k⟩ = some (v k, H (k + 1)) ∧ T (k + 1) = putA o.dst (v k) (T k) := by
  have h : ops[k]? = some ops[k] := Array.getElem?_eq_getElem (by omega)
  exact ⟨_, h, C.step k _ (Nat.zero_le _) hk h⟩
theorem Can.td : ∀ k, k ≤ m → T k = TD ops (T 0) v (fun _ => true) k
  | 0, _ => rfl
  | k + 1, hk => by
    obtain ⟨o, ho, _, h2⟩ := Can.at hm C (k := k) (by omega)
    rw [TD, if_pos rfl, ← Can.td k (by omega), h2]
    simp [dstA, ho]
theorem Can.still {D : Nat → Bool} : ∀ q, q ≤ m → (∀ k, k < q → Wf Γ ops k = true → D k = true) → H (hp D (Wf Γ ops) q) = H q
  | 0, _, _ => rfl
  | q + 1, hq, h => by
    obtain ⟨o, ho, h1, _⟩ := Can.at hm C (k := q) (by omega)
    unfold hp
    by_cases e : Wf Γ ops q = true
    · rw [if_pos ⟨h q (by omega) e, e⟩]
    · rw [if_neg (fun h2 => e h2.2), Can.still q (by omega) fun k hk => h k (by omega)]
      refine (nonW_heap P Γ ops (o := o) ?_ h1).symm
      simpa [Wf, ho] using e
include hok
theorem Can.state {D : Nat → Bool} (hc : ∀ (j : Nat) (oj : Oper), ops[j]? = some oj → D j = true → ∀ e ∈ oj.after, Region.binds .any e = true → D e.on = true) (hlt : ∀ k, D k = true → k < m) {i : Nat} {o : Oper} (hi : i < m) (ho : ops[i]? = some o) (hDi : D i = false)
    (hr : ∀ e ∈ o.after, Region.binds .any e = true → D e.on = true) :
    valA P Γ ops o ⟨TD ops (T 0) v D ops.size, H (hp D (Wf Γ ops) ops.size)⟩ = some (v i, H (hp (fun k => D k || decide (k = i)) (Wf Γ ops) ops.size)) := by
  obtain ⟨hlex, hg, hpair⟩ := wOk_spec Γ ops hok
  obtain ⟨l1, l2⟩ := lex_of ops hlex
  have ord_in : ∀ k, ordT (ancs ops.toList) k i = true → D k = true := fun k h => ord_dn ops hc i k o ho h hr
  have ord_out : ∀ k ok, ops[k]? = some ok → ordT (ancs ops.toList) i k = true → D k = false := by
    intro k ok hk h
    cases hD : D k with
    | false => rfl
    | true => rw [ord_dn ops hc k i ok hk h (hc k ok hk hD)] at hDi; cases hDi
  have hgo := hg i o ho
  have htm : valA P Γ ops o ⟨TD ops (T 0) v D ops.size, H (hp D (Wf Γ ops) ops.size)⟩ = valA P Γ ops o ⟨T i, H (hp D (Wf Γ ops) ops.size)⟩ := by
    refine valA_look P Γ ops hgo fun t ht => ?_
    rw [Can.td hm C i (by omega), ← TD_cut ops ops.size (by omega)]
    refine TD_get ops ops.size fun k hk hne d hd => ?_
    have hk' := Array.getElem?_eq_getElem hk
    have hd' : (ops[k]).dst = some d := by simpa [dstA, hk'] using hd
    rintro rfl
    by_cases hki : k < i
    · have hDk : D k = false := by
        cases h : D k with
        | false => rfl
        | true => rw [h] at hne; simp [hki] at hne
      have hap := l2 k i _ o hki hk' ho fun e he hb heq => by
        have := hr e he hb
        rw [heq, hDk] at this
        cases this
      exact (Oper.apart_spec hap).1 _ hd' ht
    · have hDk : D k = true := by
        cases h : D k with
        | true => rfl
        | false => rw [h] at hne; simp [hki] at hne
      have hne2 : k ≠ i := by rintro rfl; rw [hDk] at hDi; cases hDi
      have hap := l2 i k o _ (by omega) ho hk' fun e he hb heq => by
        have := hc k _ hk' hDk e he hb
        rw [heq, hDi] at this
        cases this
      exact (Oper.apart_spec hap).2.2 _ hd' ht
  rw [htm]
  obtain ⟨o', ho', hcan, _⟩ := Can.at hm C hi
  rw [ho] at ho'
  cases ho'
  have wf : ∀ k, Wf Γ ops k = true → ∃ ok, ops[k]? = some ok ∧ isW Γ ok = true := by
    intro k hk
    unfold Wf at hk
    split at hk
    · exact ⟨_, ‹_›, hk⟩
    · cases hk
  -- all that writes ahead of i is there, and none behind it
  have chain : (∀ k, k < i → Wf Γ ops k = true → D k = true) → (∀ k, i < k → Wf Γ ops k = true → D k = false) → H (hp D (Wf Γ ops) ops.size) = H i ∧ (Wf Γ ops i = true → hp (fun k => D k || decide (k = i)) (Wf Γ ops) ops.size = i + 1) := by
    intro h1 h2
    refine ⟨?_, fun hW => ?_⟩
    · rw [hp_no (q := i) ops.size (by omega) fun k hk1 hk2 hk3 hk4 => ?_, Can.still hm C i (by omega) h1]
      by_cases e : k = i
      · subst e; rw [hk3] at hDi; cases hDi
      · rw [h2 k (by omega) hk4] at hk3; cases hk3
    · rw [hp_no (q := i + 1) ops.size (by omega) fun k hk1 hk2 hk3 hk4 => ?_, hp, if_pos ⟨by simp, hW⟩]
      have : D k = true := by
        have h3 : ¬ k = i := by omega
        simpa [h3] using hk3
      rw [h2 k (by omega) hk4] at this
      cases this
  have byord : (∀ k ok, k ≠ i → ops[k]? = some ok → isW Γ ok = true → ordT (ancs ops.toList) k i = true ∨ ordT (ancs ops.toList) i k = true) → (∀ k, k < i → Wf Γ ops k = true → D k = true) ∧ (∀ k, i < k → Wf Γ ops k = true → D k = false) := by
    intro h
    refine ⟨fun k hk hW => ?_, fun k hk hW => ?_⟩
    · obtain ⟨ok, hok, hWk⟩ := wf k hW
      rcases h k ok (by omega) hok hWk with h1 | h1
      · exact ord_in k h1
      · have := ord_lt ops l1 k i ok hok h1; omega
    · obtain ⟨ok, hok, hWk⟩ := wf k hW
      rcases h k ok (by omega) hok hWk with h1 | h1
      · have := ord_lt ops l1 i k o ho h1; omega
      · exact ord_out k ok hok h1
  cases hW : isW Γ o with
  | true =>
    have hWi : Wf Γ ops i = true := by simp [Wf, ho, hW]
    obtain ⟨h1, h2⟩ := byord fun k ok hne hk hWk => by
      rcases hpair k i ok o hk ho hW hne with h | h | ⟨h, _⟩
      · exact .inl h
      · exact .inr h
      · rw [hWk] at h; cases h
    obtain ⟨h3, h4⟩ := chain h1 h2
    rw [h3, h4 hWi]
    exact hcan
  | false =>
    have hWi : Wf Γ ops i = false := by simp [Wf, ho, hW]
    have hsame : hp (fun k => D k || decide (k = i)) (Wf Γ ops) ops.size = hp D (Wf Γ ops) ops.size := by
      refine hp_congr ops.size fun k hk => ?_
      by_cases e : k = i
      · subst e; simp [hWi]
      · simp [e]
    rw [hsame]
    have hH := nonW_heap P Γ ops hW hcan
    have hcan' : valA P Γ ops o ⟨T i, H i⟩ = some (v i, H i) := by rw [hcan, hH]
    rcases nonW Γ hW with hcalm | hcalm
    · exact (valA_free P Γ ops hcalm hcan').2 _
    · cases hL : isL o with
      | false =>
        obtain ⟨h1, h2⟩ := byord fun k ok hne hk hWk => by
          rcases hpair i k o ok ho hk hWk (Ne.symm hne) with h | h | ⟨_, h | h⟩
          · exact .inr h
          · exact .inl h
          · rw [hcalm] at h; cases h
          · rw [hL] at h; cases h
        rw [(chain h1 h2).1]
        exact hcan'
      | true =>
        -- the first that writes ahead of i and is not there
        have part : ∀ q, q ≤ i → (H (hp D (Wf Γ ops) q) = H q ∧ ∀ k, k < q → Wf Γ ops k = true → D k = true) ∨ ∃ k', k' < q ∧ Wf Γ ops k' = true ∧ D k' = false ∧ H (hp D (Wf Γ ops) q) = H k' := by
          intro q
          induction q with
          | zero => exact fun _ => .inl ⟨rfl, fun k hk => by omega⟩
          | succ q ih =>
            intro hq
            rcases ih (by omega) with ⟨h1, h2⟩ | ⟨k', h1, h2, h3, h4⟩
            · cases hWq : Wf Γ ops q with
              | false =>
                refine .inl ⟨?_, fun k hk hWk => ?_⟩
                · obtain ⟨oq, hoq, hvq, _⟩ := Can.at hm C (k := q) (by omega)
                  rw [hp, if_neg (by simp [hWq]), h1]
                  exact (nonW_heap P Γ ops (o := oq) (by simpa [Wf, hoq] using hWq) hvq).symm
                · by_cases e : k = q
                  · subst e; rw [hWq] at hWk; cases hWk
                  · exact h2 k (by omega) hWk
              | true =>
                cases hDq : D q with
                | true =>
                  refine .inl ⟨by rw [hp, if_pos ⟨hDq, hWq⟩], fun k hk hWk => ?_⟩
                  by_cases e : k = q
                  · subst e; exact hDq
                  · exact h2 k (by omega) hWk
                | false => exact .inr ⟨q, by omega, hWq, hDq, by rw [hp, if_neg (by simp [hDq]), h1]⟩
            · refine .inr ⟨k', by omega, h2, h3, ?_⟩
              rw [hp, if_neg (fun hh => ?_), h4]
              obtain ⟨ok, hok1, hWk⟩ := wf k' h2
              obtain ⟨oq, hoq, hWq⟩ := wf q hh.2
              rcases hpair k' q ok oq hok1 hoq hWq (by omega) with h | h | ⟨h, _⟩
              · have := ord_dn ops hc q k' oq hoq h (hc q oq hoq hh.1)
                rw [h3] at this; cases this
              · have := ord_lt ops l1 k' q ok hok1 h; omega
              · rw [hWk] at h; cases h
        have base : valA P Γ ops o ⟨T i, H (hp D (Wf Γ ops) i)⟩ = some (v i, H (hp D (Wf Γ ops) i)) := by
          rcases part i (Nat.le_refl _) with ⟨h1, _⟩ | ⟨k', h1, h2, h3, h4⟩
          · rw [h1]; exact hcan'
          · rw [h4]
            obtain ⟨ok, hok1, hWk⟩ := wf k' h2
            refine C.bck i o k' ok (Nat.zero_le _) h1 hi ho hL hW hok1 hWk ?_
            cases h : ordT (ancs ops.toList) k' i with
            | false => rfl
            | true => rw [ord_in k' h] at h3; cases h3
        have up : ∀ q, i ≤ q → q ≤ ops.size → valA P Γ ops o ⟨T i, H (hp D (Wf Γ ops) q)⟩ = some (v i, H (hp D (Wf Γ ops) q)) := by
          intro q
          induction q with
          | zero =>
            intro h1 _
            have : i = 0 := by omega
            subst this
            exact base
          | succ q ih =>
            intro h1 h2
            by_cases e : i = q + 1
            · rw [← e]; exact base
            · rw [hp]
              split
              · rename_i hh
                obtain ⟨oq, hoq, hWq⟩ := wf q hh.2
                have hqi : q ≠ i := by rintro rfl; rw [hh.1] at hDi; cases hDi
                refine C.fwd i o q oq (Nat.zero_le _) (by omega) (hlt q hh.1) ho hL hW hoq hWq ?_
                cases h : ordT (ancs ops.toList) i q with
                | false => rfl
                | true => have := ord_out q oq hoq h; rw [hh.1] at this; cases this
              · exact ih (by omega) (by omega)
        exact up ops.size (by omega) (Nat.le_refl _)
omit hok hm C in
theorem cnt_add {D : Nat → Bool} {i : Nat} (hi : D i = false) : ∀ n, i < n → (List.range n).countP (fun k => !(D k || decide (k = i))) + 1 = (List.range n).countP (fun k => !D k)
  | 0, h => by omega
  | n + 1, h => by
    rw [List.range_succ, List.countP_append, List.countP_append]
    by_cases e : i = n
    · subst e
      have : (List.range i).countP (fun k => !(D k || decide (k = i))) = (List.range i).countP (fun k => !D k) := by
        refine List.countP_congr fun k hk => ?_
        have := List.mem_range.1 hk
        simp [show ¬ k = i by omega]
      rw [this]
      simp [hi]
    · have ih := cnt_add hi n (by omega)
      have : (D n || decide (n = i)) = D n := by simp [show ¬ n = i by omega]
      simp only [List.countP_cons, List.countP_nil, this]
      omega
omit hok hm C in
theorem cnt_zero {D : Nat → Bool} {n : Nat} (h : (List.range n).countP (fun k => !D k) = 0) : ∀ k, k < n → D k = true := by
  intro k hk
  rw [List.countP_eq_zero] at h
  have := h k (List.mem_range.2 hk)
  simpa using this
omit hok hm C in
theorem ready_some (hlex : ∀ (j : Nat) (o : Oper), ops[j]? = some o → ∀ e ∈ o.after, Region.binds .any e = true → e.on < j) {listed : Array Bool} (hs : listed.size = ops.size) : ∀ (k : Nat), k < ops.size → listed.getD k false = false → Region.ready .any ops listed ≠ [] := by
  intro k
  induction k using Nat.strongRecOn with
  | _ k ih =>
    intro hk hd
    by_cases h : ∀ j, j < k → listed.getD j false = true
    · have hk' := Array.getElem?_eq_getElem hk
      have : k ∈ Region.ready .any ops listed := by
        refine mem_ready.2 ⟨?_, _, hk', fun e he hb => h _ (hlex k _ hk' e he hb)⟩
        rw [getD_size hs hk] at hd ⊢
        exact hd
      intro h0
      rw [h0] at this
      cases this
    · have : ∃ j, j < k ∧ listed.getD j false = false := by
        apply Classical.byContradiction
        intro hn
        exact h fun j hj => by
          cases hh : listed.getD j false with
          | true => rfl
          | false => exact absurd ⟨j, hj, hh⟩ hn
      obtain ⟨j, hj, hjd⟩ := this
      exact ih j hj (by omega) hjd
omit hok hm C in
theorem closed_D {listed : Array Bool} (hs : listed.size = ops.size) (hcl : Closed ops listed) : ∀ (j : Nat) (oj : Oper), ops[j]? = some oj → listed.getD j false = true → ∀ e ∈ oj.after, Region.binds .any e = true → listed.getD e.on false = true := by
  intro j oj hj hd
  refine hcl j oj hj ?_
  have hlt := (Array.getElem?_eq_some_iff.1 hj).1
  rw [getD_size hs hlt] at hd ⊢
  exact hd
theorem Can.next {listed : Array Bool} (hs : listed.size = ops.size) (hcl : Closed ops listed) (hlt : ∀ k, listed.getD k false = true → k < m) {i : Nat} (hi : i ∈ Region.ready .any ops listed) (him : i < m) :
    stepA P Γ ops i ⟨TD ops (T 0) v (fun k => listed.getD k false) ops.size, H (hp (fun k => listed.getD k false) (Wf Γ ops) ops.size)⟩ =
      some ⟨TD ops (T 0) v (fun k => (listed.setIfInBounds i true).getD k false) ops.size, H (hp (fun k => (listed.setIfInBounds i true).getD k false) (Wf Γ ops) ops.size)⟩ := by
  obtain ⟨hlex, hg, hpair⟩ := wOk_spec Γ ops hok
  obtain ⟨l1, l2⟩ := lex_of ops hlex
  obtain ⟨hun, o, ho, hall⟩ := mem_ready.1 hi
  have hil := (Array.getElem?_eq_some_iff.1 ho).1
  have hDi : listed.getD i false = false := by
    rw [getD_size hs hil] at hun ⊢
    exact hun
  have hD' : (fun k => (listed.setIfInBounds i true).getD k false) = fun k => listed.getD k false || decide (k = i) := by
    funext k
    rw [getD_setIf hs hil]
    by_cases e : k = i
    · simp [e]
    · simp [e]
  rw [hD', stepA_val P Γ ops ho, Can.state hok hm C (closed_D hs hcl) hlt him ho hDi hall, Option.map_some]
  have hadd := TD_add ops (T0 := T 0) (v := v) (D := fun k => listed.getD k false) hDi ops.size hil fun k h1 h2 hk d hd hdi => by
    have hk' := Array.getElem?_eq_getElem h2
    have hap := l2 i k o _ h1 ho hk' fun e he hb heq => by
      have := closed_D hs hcl k _ hk' hk e he hb
      rw [heq, hDi] at this
      cases this
    exact (Oper.apart_spec hap).2.1 d (by simpa [dstA, ho] using hdi) (by simpa [dstA, hk'] using hd)
  rw [hadd]
  simp [dstA, ho]
theorem Can.any (hmn : m = ops.size) : ∀ (fuel : Nat) (listed : Array Bool), listed.size = ops.size → Closed ops listed → (List.range ops.size).countP (fun k => !listed.getD k false) = fuel →
    anyA P Γ ops ⟨T m, H m⟩ fuel listed ⟨TD ops (T 0) v (fun k => listed.getD k false) ops.size, H (hp (fun k => listed.getD k false) (Wf Γ ops) ops.size)⟩
  | 0, listed, hs, hcl, hc => by
    have hall := cnt_zero hc
    refine ⟨List.eq_nil_iff_forall_not_mem.2 fun i hi => ?_, ?_⟩
    · obtain ⟨hun, o, ho, _⟩ := mem_ready.1 hi
      have hil := (Array.getElem?_eq_some_iff.1 ho).1
      have := hall i hil
      rw [getD_size hs hil] at hun this
      rw [hun] at this
      cases this
    · rw [Can.still hm C ops.size (by omega) fun k hk _ => hall k hk, TD_low ops (D' := fun _ => true) ops.size fun k hk => hall k hk, ← Can.td hm C ops.size (by omega), hmn]
  | fuel + 1, listed, hs, hcl, hc => by
    obtain ⟨hlex, _, _⟩ := wOk_spec Γ ops hok
    obtain ⟨l1, _⟩ := lex_of ops hlex
    have hne : ∃ k, k < ops.size ∧ listed.getD k false = false := by
      have : 0 < (List.range ops.size).countP (fun k => !listed.getD k false) := by omega
      rw [List.countP_pos_iff] at this
      obtain ⟨k, hk, h⟩ := this
      exact ⟨k, List.mem_range.1 hk, by simpa using h⟩
    obtain ⟨k, hk, hkd⟩ := hne
    refine ⟨fun h => absurd h (ready_some l1 hs k hk hkd), fun i hi => ?_⟩
    obtain ⟨hun, o, ho, _⟩ := mem_ready.1 hi
    have hil := (Array.getElem?_eq_some_iff.1 ho).1
    have hDi : listed.getD i false = false := by
      rw [getD_size hs hil] at hun ⊢
      exact hun
    refine ⟨_, Can.next hok hm C hs hcl (fun q hq => ?_) hi (by omega), Can.any hmn fuel _ (by simpa using hs) (hcl.step ops hs hi) ?_⟩
    · have : q < listed.size := by
        apply Classical.byContradiction
        intro h
        simp [Array.getD, h] at hq
      omega
    · have := cnt_add (D := fun k => listed.getD k false) hDi ops.size hil
      have e : (fun k => !(listed.setIfInBounds i true).getD k false) = fun k => !(listed.getD k false || decide (k = i)) := by
        funext q
        rw [getD_setIf hs hil]
        by_cases e : q = i
        · simp [e]
        · simp [e]
      rw [e]
      omega
theorem Can.anyP (hmn : m + 1 = ops.size) (hd : depOk ops.toList = true) : ∀ (fuel : Nat) (listed : Array Bool), listed.size = ops.size → Closed ops listed → listed.getD m false = false → (List.range ops.size).countP (fun k => !listed.getD k false) = fuel →
    anyB P Γ ops ⟨T m, H m⟩ fuel listed ⟨TD ops (T 0) v (fun k => listed.getD k false) ops.size, H (hp (fun k => listed.getD k false) (Wf Γ ops) ops.size)⟩
  | 0, listed, hs, hcl, hz, hc => by
    have := cnt_zero hc m (by omega)
    rw [hz] at this
    cases this
  | fuel + 1, listed, hs, hcl, hz, hc => by
    obtain ⟨hlex, _, _⟩ := wOk_spec Γ ops hok
    obtain ⟨l1, _⟩ := lex_of ops hlex
    refine ⟨ready_some l1 hs m (by omega) hz, fun i hi => ?_⟩
    obtain ⟨hun, o, ho, _⟩ := mem_ready.1 hi
    have hil := (Array.getElem?_eq_some_iff.1 ho).1
    have hDi : listed.getD i false = false := by
      rw [getD_size hs hil] at hun ⊢
      exact hun
    by_cases e : i = ops.size - 1
    · refine .inl ⟨e, ?_⟩
      have hall : ∀ k, k < m → listed.getD k false = true := by
        intro k hk
        have := last_ready ops hs hcl hd (e ▸ hi) (ops.size - 1 - k) k (by omega) (by omega)
        rw [getD_size hs (by omega)] at this ⊢
        exact this
      have hD : ∀ k, k < ops.size → listed.getD k false = decide (k < m) := by
        intro k hk
        by_cases h : k < m
        · rw [hall k h]; simp [h]
        · have : k = m := by omega
          subst this
          rw [hz]; simp
      rw [hp_no (q := m) ops.size (by omega) fun k h1 h2 h3 _ => ?_, Can.still hm C m (Nat.le_refl _) fun k hk _ => hall k hk, TD_low ops ops.size hD, TD_cut ops ops.size (by omega), ← Can.td hm C m (Nat.le_refl _)]
      have : k = m := by omega
      subst this
      rw [hz] at h3
      cases h3
    · refine .inr ⟨e, _, Can.next hok hm C hs hcl (fun q hq => ?_) hi (by omega), Can.anyP hmn hd fuel _ (by simpa using hs) (hcl.step ops hs hi) ?_ ?_⟩
      · have h1 : q < listed.size := by
          apply Classical.byContradiction
          intro h
          simp [Array.getD, h] at hq
        have h2 : q ≠ m := by rintro rfl; rw [hz] at hq; cases hq
        omega
      · rw [getD_setIf hs hil, if_neg (by omega)]
        exact hz
      · have := cnt_add (D := fun k => listed.getD k false) hDi ops.size hil
        have e : (fun k => !(listed.setIfInBounds i true).getD k false) = fun k => !(listed.getD k false || decide (k = i)) := by
          funext q
          rw [getD_setIf hs hil]
          by_cases e : q = i
          · simp [e]
          · simp [e]
        rw [e]
        omega
end
theorem regW_any (good : Good P Γ) {R : Type} {σ : St} {K : Cont R} {r : R} (hk : regW P Γ ops σ K = some r) :
    (∃ σf, K .normal σf = some r ∧ anyA P Γ ops σf ops.size (Array.replicate ops.size false) σ) ∨ (∃ σf v h', K (.pan v) ⟨σf.tmps, h'⟩ = some r ∧ (PanAt P ops (ops.size - 1) σf v h' ∧ depOk ops.toList = true) ∧ anyB P Γ ops σf ops.size (Array.replicate ops.size false) σ) := by
  unfold regW at hk
  rcases bsq_inv hk with ⟨hok, hk⟩ | ⟨_, hk⟩
  case inr => cases hk
  obtain ⟨_, hg, _⟩ := wOk_spec Γ ops hok
  obtain ⟨m, T, H, v, e1, e2, C, _, hfin⟩ := aopsW_run P Γ ops good (ancs ops.toList) hg ops.toList 0 [] [] σ rfl hk
  have hcl : Closed ops (Array.replicate ops.size false) := by
    intro j oj hoj hj
    have := (Array.getElem?_eq_some_iff.1 hoj).1
    simp [Array.getD, this] at hj
  have hf : ∀ k, (Array.replicate ops.size false).getD k false = false := fun k => by simp [Array.getD]
  have hcnt : (List.range ops.size).countP (fun k => !(Array.replicate ops.size false).getD k false) = ops.size := by
    simp only [hf]
    simp
  have hst : (⟨TD ops (T 0) v (fun k => (Array.replicate ops.size false).getD k false) ops.size, H (hp (fun k => (Array.replicate ops.size false).getD k false) (Wf Γ ops) ops.size)⟩ : St) = σ := by
    simp only [hf]
    have h1 : ∀ n, TD ops (T 0) v (fun _ => false) n = T 0 := by
      intro n
      induction n with
      | zero => rfl
      | succ n ih => rw [TD, if_neg (by decide), ih]
    have h2 : hp (fun _ => false) (Wf Γ ops) ops.size = 0 := by
      rw [hp_no (q := 0) ops.size (Nat.zero_le _) fun k _ _ h _ => by cases h]
      rfl
    rw [h1, h2, e1, e2]
  have hlen : ops.toList.length = ops.size := by simp
  rcases hfin with ⟨h1, h2⟩ | ⟨h1, v', h', ⟨h2, h3⟩, h4⟩
  · refine .inl ⟨_, h2, ?_⟩
    have := Can.any hok (by omega) C (by omega) ops.size _ (by simp) hcl hcnt
    rw [hst] at this
    exact this
  · have hm1 : m = ops.size - 1 := by omega
    refine .inr ⟨⟨T m, H m⟩, v', h', h4, ⟨by rw [← hm1]; exact h2, h3⟩, ?_⟩
    have := Can.anyP hok (by omega) C (by omega) h3 ops.size _ (by simp) hcl (hf m) hcnt
    rw [hst] at this
    exact this
end
end Go.Proofs.Ytknphnmhjmejaaa
/-  The abstract machine: regions in any order in which new slices do not wait for each other. No conditions. -/
namespace Go.Proofs.Ytknphnmhjmejaaa
set_option linter.unusedVariables false
set_option linter.unusedSimpArgs false
/-! ### An object that lies there ahead of its block -/
def fillJ (J : Jm) (n : Nat) (e : JE) : Jm := fun o r => if o = n ∧ r = 0 then some e else J o r
theorem HR.fill {J M h w} (r : HR J M h w) {n esz : Nat} {l : List AV} (ho : h[n]? = some ⟨0, esz, l⟩) (hno : ∀ q, J n q = none) (c : Array Value) (t : TypeId) (hl : Vs J M l (fun i => c[i]?)) :
    JLe J (fillJ J n ⟨w.heap.size, c.size, esz⟩) ∧ HR (fillJ J n ⟨w.heap.size, c.size, esz⟩) M h (w.alloc (.cells c t)) := by
  have hle : JLe J (fillJ J n ⟨w.heap.size, c.size, esz⟩) := by
    intro o v e' k
    unfold fillJ
    rw [if_neg]
    · exact k
    · rintro ⟨rfl, _⟩
      rw [hno] at k; cases k
  have jold : ∀ o q, o ≠ n → fillJ J n ⟨w.heap.size, c.size, esz⟩ o q = J o q := by
    intro o q hne
    unfold fillJ
    rw [if_neg (fun k => hne k.1)]
  have jnew : fillJ J n ⟨w.heap.size, c.size, esz⟩ n 0 = some ⟨w.heap.size, c.size, esz⟩ := by simp [fillJ]
  refine ⟨hle, ?_, ?_, ?_, ?_, ?_⟩
  · intro o ob hob
    by_cases hne : o = n
    · subst hne
      rw [ho] at hob
      cases hob
      exact .inr ⟨_, c, t, jnew, rfl, heap_new _ _, rfl, Vs_mono hle (MLe.refl M) _ _ _ (fun _ _ k => k) hl⟩
    · rcases r.ob0 o ob hob with hd | ⟨e, c', t', he, hs, hb, hn, hv⟩
      · exact .inl fun q => by rw [jold _ _ hne]; exact hd q
      · exact .inr ⟨e, c', t', by rw [jold _ _ hne]; exact he, hs, by rw [heap_old _ _ (lt_of_cells hb)]; exact hb, hn, Vs_mono hle (MLe.refl M) _ _ _ (fun _ _ k => k) hv⟩
  · intro o v e k
    unfold fillJ at k
    split at k
    · rename_i hc
      obtain ⟨rfl, rfl⟩ := hc
      exact ⟨_, ho, Nat.le_refl _⟩
    · exact r.key _ _ _ k
  · intro o1 o2 ob1 ob2 e1 e2 h1 h2 k1 k2 hb
    by_cases n1 : o1 = n <;> by_cases n2 : o2 = n
    · rw [n1, n2]
    · subst n1
      rw [ho] at h1
      cases h1
      rw [jnew] at k1
      rw [jold _ _ n2] at k2
      cases k1
      have := owned_lt r ⟨_, _, _, h2, k2, rfl⟩
      simp only at hb
      omega
    · subst n2
      rw [ho] at h2
      cases h2
      rw [jnew] at k2
      rw [jold _ _ n1] at k1
      cases k2
      have := owned_lt r ⟨_, _, _, h1, k1, rfl⟩
      simp only at hb
      omega
    · rw [jold _ _ n1] at k1
      rw [jold _ _ n2] at k2
      exact r.inj _ _ _ _ _ _ h1 h2 k1 k2 hb
  · intro a v k
    have := r.im a v k
    rw [World.cell?_alloc_lt _ _ _ (World.block_lt_of_cell? _ _ this)]
    exact this
  · intro a v o ob e k hob he
    by_cases hne : o = n
    · subst hne
      rw [ho] at hob
      cases hob
      rw [jnew] at he
      cases he
      have := World.block_lt_of_cell? _ _ (r.im a v k)
      simp only
      omega
    · rw [jold _ _ hne] at he
      exact r.sep _ _ _ _ _ k hob he
/-- As 'Sim'; of some objects no block is there yet. -/
def SimP (B : Bs) (pd : Nat → Prop) (σ : St) (a : Act) (w : World) : Prop :=
  ∃ J M, Stp B.J B.M B.h B.w J M σ.heap w ∧ a.tmps.size = σ.tmps.length ∧ Vs J M σ.tmps (fun i => a.tmps[i]?) ∧ DMk B a.defers w ∧ ∀ o, pd o → o < σ.heap.length ∧ ∀ q, J o q = none
theorem SimP.sim {B : Bs} {pd : Nat → Prop} {σ : St} {a : Act} {w : World} (k : SimP B pd σ a w) : Sim B σ a w := by
  obtain ⟨J, M, st, hs, hv, hd, _⟩ := k
  exact ⟨J, M, st, hs, hv, hd⟩
/-- New objects that lie there with no block. -/
theorem HR.ahead {J M h w} (r : HR J M h w) : ∀ (l : List Ob), Stp J M h w J M (h ++ l) w := by
  intro l
  have old : ∀ o ob, (h ++ l)[o]? = some ob → h[o]? = some ob ∨ ∀ q, J o q = none := by
    intro o ob ho
    rcases Nat.lt_or_ge o h.length with hlt | hge
    · exact .inl (by rwa [List.getElem?_append_left hlt] at ho)
    · refine .inr fun q => ?_
      cases e : J o q with
      | none => rfl
      | some e0 =>
        obtain ⟨ob, hob, _⟩ := r.key _ _ _ e
        rw [List.getElem?_eq_none hge] at hob
        cases hob
  have same : ∀ o ob e q, (h ++ l)[o]? = some ob → J o q = some e → h[o]? = some ob := by
    intro o ob e q ho he
    rcases old o ob ho with k | k
    · exact k
    · rw [k] at he; cases he
  refine ⟨JLe.refl J, MLe.refl M, ⟨fun o ob ho => ?_, fun o q e k => ?_, fun o1 o2 ob1 ob2 e1 e2 h1 h2 k1 k2 hb => r.inj _ _ _ _ _ _ (same _ _ _ _ h1 k1) (same _ _ _ _ h2 k2) k1 k2 hb, r.im, fun a v o ob e k ho he => r.sep _ _ _ _ _ k (same _ _ _ _ ho he) he⟩, by simp, Fr.refl _ w, fun _ _ k => .inl k, ?_, fun _ _ _ k => .inr ⟨_, _, k⟩⟩
  · rcases old o ob ho with k | k
    · exact r.ob0 o ob k
    · exact .inl k
  · obtain ⟨ob, hob, hv⟩ := r.key _ _ _ k
    exact ⟨ob, by rw [List.getElem?_append_left (List.getElem?_eq_some_iff.1 hob).1]; exact hob, hv⟩
  · rintro b ⟨o, ob, e, ho, he, rfl⟩
    exact .inl ⟨o, ob, e, same _ _ _ _ ho he, he, rfl⟩
section
variable {P : Program} {Γ : FuncId → Option Callee} {ops : Array Oper}
theorem stepA_soundP (good : Good P Γ) {i : Nat} {σ σ1 : St} (hs : stepA P Γ ops i σ = some σ1) {B : Bs} {pd : Nat → Prop} {a : Act} {w : World} (hS : SimP B pd σ a w) {K : Act → World → Prop} {Q : Exit → Act → World → Prop}
    {rr : Option Nat} {nn : Nat} (hK : ∀ a' w', SimP B pd σ1 a' w' → K a' w') : wpOpIn (FW rr) nn P ops Q i K a w := by
  obtain ⟨J, M, st, hsz, hv, hd, hp⟩ := hS
  refine stepA_sound (B := ⟨J, M, σ.heap, w, a.defers, false⟩) good hs ⟨J, M, Stp.refl st.hr, hsz, hv, DMk.none⟩ fun a' w' h' => hK a' w' ?_
  obtain ⟨J', M', st', hsz', hv', hd'⟩ := h'
  have e : a'.defers = a.defers := hd'.eq rfl
  refine ⟨J', M', st.trans st', hsz', hv', by rw [e]; exact hd.step st.hr st', fun o ho => ?_⟩
  obtain ⟨h1, h2⟩ := hp o ho
  have hle : σ.heap.length ≤ σ1.heap.length := st'.len
  refine ⟨by omega, fun q => ?_⟩
  cases e2 : J' o q with
  | none => rfl
  | some e0 =>
    rcases st'.jfr o q e0 e2 with k | ⟨q0, e1, k⟩
    · have : σ.heap.length ≤ o := k
      omega
    · have k : J o q0 = some e1 := k
      rw [h2] at k
      cases k
theorem fill_soundP {o : Oper} {i : Nat} (hi : ops[i]? = some o) (hg : o.guard = none) {t e : TypeId} {x y : Operand} {sz bytes n0 : Nat} {z : List AV} {n m : Int} {ts : List AV} {h : Hp} (ho : o.op = .makeSlice t x y) (he : elemSz P t = some (sz, bytes, e)) (hz : zeroE P e sz = some z)
    (hx : aeval ts x = .rv (.int .i64 n)) (hy : aeval ts y = .rv (.int .i64 m)) (h0 : 0 ≤ n) (hnm : n ≤ m) (hm : m ≤ room) (hb : bytes * m ≤ room) {B : Bs} {pd pd' : Nat → Prop} {a : Act} {w : World} (hS : SimP B pd ⟨ts, h⟩ a w)
    (hob : h[n0]? = some ⟨0, sz, zrep z n.toNat⟩) (hB : B.h.length ≤ n0) (hp0 : pd n0) (hp : ∀ o, pd' o → pd o ∧ o ≠ n0) {K : Act → World → Prop} {Q : Exit → Act → World → Prop}
    {rr : Option Nat} {nn : Nat} (hK : ∀ a' w', SimP B pd' ⟨putA o.dst (.sl n0 0 0 n.toNat) ts, h⟩ a' w' → K a' w') : wpOpIn (FW rr) nn P ops Q i K a w := by
  obtain ⟨J, M, st, hsz, hv, hd, hpd⟩ := hS
  have h1 := eval_rel hsz hv x
  have h2 := eval_rel hsz hv y
  rw [hx] at h1
  rw [hy] at h2
  obtain ⟨c, hc, hcs, hrun⟩ := run_make (P := P) (J := J) (M := M) he hz h0 hnm hm hb w
  have hno := (hpd n0 hp0).2
  obtain ⟨hle, hr⟩ := st.hr.fill hob hno c e hc
  have jnew : fillJ J n0 ⟨w.heap.size, c.size, sz⟩ n0 0 = some ⟨w.heap.size, c.size, sz⟩ := by simp [fillJ]
  have jold : ∀ o q, o ≠ n0 → fillJ J n0 ⟨w.heap.size, c.size, sz⟩ o q = J o q := by
    intro o q hne
    unfold fillJ
    rw [if_neg (fun k => hne k.1)]
  have hfr : Fr (fun _ => False) w (w.alloc (.cells c e)) := ⟨rfl, rfl, rfl, by show _ ≤ (w.heap.push _).size; simp, fun b hb _ => heap_old w _ hb⟩
  have st' : Stp B.J B.M B.h B.w (fillJ J n0 ⟨w.heap.size, c.size, sz⟩) M h (w.alloc (.cells c e)) := by
    refine ⟨st.jle.trans hle, st.mle, hr, st.len, ⟨hfr.os.trans st.fr.os, hfr.tape.trans st.fr.tape, hfr.output.trans st.fr.output, Nat.le_trans st.fr.size hfr.size, fun b hb hno => ?_⟩, st.mnew, ?_, fun o q e0 k => ?_⟩
    · rw [hfr.block b (Nat.lt_of_lt_of_le hb st.fr.size) (by simp)]
      exact st.fr.block b hb hno
    · rintro b ⟨o, ob, e0, hoo, heo, rfl⟩
      by_cases hne : o = n0
      · subst hne
        rw [hob] at hoo
        cases hoo
        rw [jnew] at heo
        cases heo
        exact .inr st.fr.size
      · rw [jold _ _ hne] at heo
        exact st.onew _ ⟨o, ob, e0, hoo, heo, rfl⟩
    · by_cases hne : o = n0
      · exact .inl (by omega)
      · rw [jold _ _ hne] at k
        exact st.jfr o q e0 k
  have hV : V (fillJ J n0 ⟨w.heap.size, c.size, sz⟩) M (.sl n0 0 0 n.toNat) (.slice (some ⟨w.heap.size, 0, none⟩) n.toNat m.toNat) := by
    simp only [V]
    exact ⟨⟨w.heap.size, c.size, sz⟩, jnew, _, m.toNat, rfl, by omega, .inr ⟨rfl, by simpa using hcs⟩⟩
  have hv' : Vs (fillJ J n0 ⟨w.heap.size, c.size, sz⟩) M ts (fun i => a.tmps[i]?) := Vs_mono hle (MLe.refl M) _ _ _ (fun _ _ k => k) hv
  have hdm : DMk B a.defers (w.alloc (.cells c e)) := by
    obtain ⟨l, k1, k2, k3, k4⟩ := hd
    refine ⟨l, k1, k2, fun D hD => ?_, k4⟩
    obtain ⟨k5, k6⟩ := k3 D hD
    exact ⟨k5, by rw [heap_old _ _ (Array.getElem?_eq_some_iff.1 k6).1]; exact k6⟩
  have hfin : SimP B pd' ⟨putA o.dst (.sl n0 0 0 n.toNat) ts, h⟩ (a.put o.dst (.slice (some ⟨w.heap.size, 0, none⟩) n.toNat m.toNat)) (w.alloc (.cells c e)) := by
    refine ⟨_, M, st', ?_, ?_, ?_, fun o ho => ?_⟩
    · simp only at hsz
      cases o.dst <;> simp [Act.put, putA, tset_eq, hsz]
    · cases o.dst with
      | none => exact hv'
      | some d =>
        simp only [putA, tset_eq]
        exact Vs_set hsz hv' d hV
    · cases o.dst <;> exact hdm
    · obtain ⟨k1, k2⟩ := hp o ho
      obtain ⟨k3, k4⟩ := hpd o k1
      exact ⟨k3, fun q => by rw [jold _ _ k2]; exact k4 q⟩
  unfold wpOpIn
  simp only [hi, Region.wanted, hg, if_true]
  refine wp_in (fun c0 e0 => by rw [ho] at e0; cases e0) (wp_val (u := .slice (some ⟨w.heap.size, 0, none⟩) n.toNat m.toNat) ?_ (hK _ _ hfin))
  simp [execOp, ho, V_int h1, V_int h2, hrun]
theorem cellAt_app {h : Hp} {p : AV} {j : Nat} {x : AV} (l : Hp) (k : cellAt h p j = some x) : cellAt (h ++ l) p j = some x := by
  cases p with
  | ptr o ver off =>
    simp only [cellAt] at k ⊢
    cases ho : h[o]? with
    | none => rw [ho] at k; cases k
    | some ob =>
      rw [ho] at k
      rw [List.getElem?_append_left (List.getElem?_eq_some_iff.1 ho).1, ho]
      exact k
  | rv y => cases y <;> exact k
  | _ => exact k
theorem cellsN_app {h : Hp} {p : AV} (l : Hp) : ∀ (n j : Nat) {xs : List AV}, cellsN h p j n = some xs → cellsN (h ++ l) p j n = some xs
  | 0, _, _, k => k
  | n + 1, j, xs, k => by
    simp only [cellsN] at k ⊢
    cases hx : cellAt h p j with
    | none => rw [hx] at k; cases k
    | some x =>
      rw [hx] at k
      rw [cellAt_app l hx]
      simp only at k ⊢
      cases hl : cellsN h p (j + 1) n with
      | none => rw [hl] at k; cases k
      | some l' =>
        rw [hl] at k
        rw [cellsN_app l n (j + 1) hl]
        exact k
variable (P Γ) in
theorem load_app {o : Oper} {t : TypeId} {x : Operand} (ho : o.op = .load t x) {ts : List AV} {h h' : Hp} {v : AV} (l : Hp) (hk : aopO P Γ o ⟨ts, h⟩ = some (.val v h')) : aopO P Γ o ⟨ts, h ++ l⟩ = some (.val v (h ++ l)) := by
  have e0 := aop_reads P Γ o (load_calm Γ ho) hk
  subst e0
  refine sld_val P Γ ho hk ?_
  unfold aopO aop at hk
  rw [ho] at hk
  unfold SldP
  simp only at hk
  split at hk
  · cases hk
  · rename_i hd
    rw [hd]
    rcases bsq_inv hk with ⟨_, hk⟩ | ⟨_, hk⟩
    · cases hk
    · unfold ldg at hk
      split at hk
      · rename_i xs hxs
        cases hk
        exact ⟨_, cellsN_app l _ _ hxs, rfl⟩
      · cases hk
  · rename_i hd
    rw [hd]
    rcases bsq_inv hk with ⟨_, hk⟩ | ⟨_, hk⟩
    · cases hk
    · unfold ldg at hk
      split at hk
      · rename_i xs hxs
        cases hk
        exact ⟨_, cellsN_app l _ _ hxs, rfl⟩
      · cases hk
  · rename_i k hd
    rw [hd]
    unfold ldi at hk
    obtain ⟨y, hy, hk⟩ := ldv_inv hk
    obtain ⟨n, hn, hk⟩ := asInt_inv hk
    cases hk
    exact cellAt_app l (by rw [hy, hn])
  · rename_i hd
    rw [hd]
    unfold ldb at hk
    obtain ⟨y, hy, hk⟩ := ldv_inv hk
    obtain ⟨n, hn, hk⟩ := asBool_inv hk
    cases hk
    exact cellAt_app l (by rw [hy, hn])
  · rename_i d n1 n2 n3 n4 hd
    rw [hd]
    obtain ⟨y, hy, hk⟩ := ldv_inv hk
    cases hk
    have := cellAt_app l hy
    cases d <;> simp_all
end
section
variable (P : Program) (Γ : FuncId → Option Callee) (ops : Array Oper)
theorem qOf_spec (p : Oper → Bool) : ∀ (l : List Oper) (k : Nat), k < (List.rec (motive := fun _ => Nat) 0 (fun o _ ih => bif p o then ih + 1 else 0) l : Nat) → ∃ o, l[k]? = some o ∧ p o = true
  | [], k, h => absurd h (Nat.not_lt_zero k)
  | o :: l, k, h => by
    have h : k < (bif p o then (List.rec (motive := fun _ => Nat) 0 (fun o _ ih => bif p o then ih + 1 else 0) l : Nat) + 1 else 0) := h
    cases hp : p o with
    | false => rw [hp] at h; exact absurd h (Nat.not_lt_zero k)
    | true =>
      rw [hp, cond_true] at h
      cases k with
      | zero => exact ⟨o, rfl, hp⟩
      | succ k =>
        obtain ⟨x, h1, h2⟩ := qOf_spec p l k (by omega)
        exact ⟨x, by simpa using h1, h2⟩
theorem fOk_spec (h : fOk Γ ops (ancs ops.toList) = true) : Region.lexB .any ops = true ∧ (∀ (k : Nat) (o : Oper), ops[k]? = some o → o.guard = none) ∧
    (∀ k, k < qOf Γ ops.toList → ∃ o, ops[k]? = some o ∧ erl Γ o = true) ∧ ∀ i j, qOf Γ ops.toList ≤ j → i < j → j < ops.size → ordT (ancs ops.toList) i j = true := by
  unfold fOk at h
  simp only [Bool.and_eq_true, List.all_eq_true, List.mem_range, Bool.or_eq_true] at h
  obtain ⟨⟨h1, h2⟩, h3⟩ := h
  refine ⟨lexQ_ok ops h1, fun k o ho => ?_, fun k hk => ?_, fun i j hq hij hj => ?_⟩
  · have := h2 o (by rw [Array.mem_toList_iff]; exact Array.mem_of_getElem? ho)
    simpa using this
  · obtain ⟨o, k1, k2⟩ := qOf_spec (erl Γ) ops.toList k hk
    exact ⟨o, by rwa [Array.getElem?_toList] at k1, k2⟩
  · rcases h3 j hj with h4 | h4
    · have : j < qOf Γ ops.toList := by simpa [Nat.blt_eq] using h4
      omega
    · exact h4 i hij
/-- What the operations did, one behind the other. -/
structure Rn (T : Nat → List AV) (H : Nat → Hp) (v : Nat → AV) : Prop where
  step : ∀ k o, ops[k]? = some o → valA P Γ ops o ⟨T k, H k⟩ = some (v k, H (k + 1)) ∧ T (k + 1) = putA o.dst (v k) (T k)
theorem aops_run (good : Good P Γ) {R : Type} {K : Cont R} {r : R} : ∀ (n i : Nat) (σ : St), i + n = ops.size → aops P Γ ops true (List.range' i n) σ (nmK K) = some r →
    ∃ (T : Nat → List AV) (H : Nat → Hp), T i = σ.tmps ∧ H i = σ.heap ∧ (∀ k, i ≤ k → k < ops.size → stepA P Γ ops k ⟨T k, H k⟩ = some ⟨T (k + 1), H (k + 1)⟩) ∧ K .normal ⟨T ops.size, H ops.size⟩ = some r
  | 0, i, σ, hi, hk => by
    simp only [List.range'_zero, aops] at hk
    refine ⟨fun _ => σ.tmps, fun _ => σ.heap, rfl, rfl, fun k h1 h2 => by omega, hk⟩
  | n + 1, i, σ, hi, hk => by
    have rest : ∀ σ1, stepA P Γ ops i σ = some σ1 → aops P Γ ops true (List.range' (i + 1) n) σ1 (nmK K) = some r →
        ∃ (T : Nat → List AV) (H : Nat → Hp), T i = σ.tmps ∧ H i = σ.heap ∧ (∀ k, i ≤ k → k < ops.size → stepA P Γ ops k ⟨T k, H k⟩ = some ⟨T (k + 1), H (k + 1)⟩) ∧ K .normal ⟨T ops.size, H ops.size⟩ = some r := by
      intro σ1 hs hk1
      obtain ⟨T, H, e1, e2, h1, h2⟩ := aops_run good n (i + 1) σ1 (by omega) hk1
      refine ⟨fun k => if k = i then σ.tmps else T k, fun k => if k = i then σ.heap else H k, by simp, by simp, fun k hk1 hk2 => ?_, ?_⟩
      · by_cases e : k = i
        · subst e
          simp only [if_true, if_neg (show k + 1 ≠ k by omega), e1, e2]
          exact hs
        · simp only [if_neg e, if_neg (show k + 1 ≠ i by omega)]
          exact h1 k (by omega) hk2
      · simp only [if_neg (show ops.size ≠ i by omega)]
        exact h2
    rw [List.range'_succ] at hk
    cases n with
    | zero =>
      rw [List.range'_zero] at hk
      rcases aops_last P Γ ops good i σ (nmK K) r hk with ⟨σ1, hs, hK⟩ | ⟨v, h', _, hK, _⟩
      · exact rest σ1 hs (by simpa [List.range'_zero, aops] using hK)
      · cases hK
    | succ n =>
      obtain ⟨σ1, hs, hk1⟩ := aops_step P Γ ops i _ σ (nmK K) r (by simp [List.range'_succ]) hk
      exact rest σ1 hs hk1
variable {P Γ ops}
section
variable {T : Nat → List AV} {H : Nat → Hp} {v : Nat → AV} (C : Rn P Γ ops T H v)
include C
theorem Rn.td : ∀ k, k ≤ ops.size → T k = TD ops (T 0) v (fun _ => true) k
  | 0, _ => rfl
  | k + 1, hk => by
    have ho : ops[k]? = some ops[k] := Array.getElem?_eq_getElem (by omega)
    obtain ⟨_, h2⟩ := C.step k _ ho
    rw [TD, if_pos rfl, ← Rn.td k (by omega), h2]
    simp [dstA, ho]
theorem Rn.look (hlex : Region.lexB .any ops = true) {D : Nat → Bool} (hc : ∀ (j : Nat) (oj : Oper), ops[j]? = some oj → D j = true → ∀ e ∈ oj.after, Region.binds .any e = true → D e.on = true) {i : Nat} {o : Oper} (ho : ops[i]? = some o) (hDi : D i = false)
    (hr : ∀ e ∈ o.after, Region.binds .any e = true → D e.on = true) : ∀ t ∈ o.looksAt ops, (TD ops (T 0) v D ops.size).getD t .any = (T i).getD t .any := by
  have hi := (Array.getElem?_eq_some_iff.1 ho).1
  obtain ⟨l1, l2⟩ := lex_of ops hlex
  intro t ht
  rw [Rn.td C i (by omega), ← TD_cut ops ops.size (by omega)]
  refine TD_get ops ops.size fun k hk hne d hd => ?_
  have hk' := Array.getElem?_eq_getElem hk
  have hd' : (ops[k]).dst = some d := by simpa [dstA, hk'] using hd
  rintro rfl
  by_cases hki : k < i
  · have hDk : D k = false := by
      cases h : D k with
      | false => rfl
      | true => rw [h] at hne; simp [hki] at hne
    have hap := l2 k i _ o hki hk' ho fun e he hb heq => by
      have := hr e he hb
      rw [heq, hDk] at this
      cases this
    exact (Oper.apart_spec hap).1 _ hd' ht
  · have hDk : D k = true := by
      cases h : D k with
      | true => rfl
      | false => rw [h] at hne; simp [hki] at hne
    have hne2 : k ≠ i := by rintro rfl; rw [hDk] at hDi; cases hDi
    have hap := l2 i k o _ (by omega) ho hk' fun e he hb heq => by
      have := hc k _ hk' hDk e he hb
      rw [heq, hDi] at this
      cases this
    exact (Oper.apart_spec hap).2.2 _ hd' ht
omit C in
theorem Rn.add (hlex : Region.lexB .any ops = true) {D : Nat → Bool} (hc : ∀ (j : Nat) (oj : Oper), ops[j]? = some oj → D j = true → ∀ e ∈ oj.after, Region.binds .any e = true → D e.on = true) {i : Nat} {o : Oper} (ho : ops[i]? = some o) (hDi : D i = false) :
    TD ops (T 0) v (fun k => D k || decide (k = i)) ops.size = putA o.dst (v i) (TD ops (T 0) v D ops.size) := by
  have hi := (Array.getElem?_eq_some_iff.1 ho).1
  obtain ⟨l1, l2⟩ := lex_of ops hlex
  have := TD_add ops (T0 := T 0) (v := v) (D := D) hDi ops.size hi fun k h1 h2 hk d hd hdi => by
    have hk' := Array.getElem?_eq_getElem h2
    have hap := l2 i k o _ h1 ho hk' fun e he hb heq => by
      have := hc k _ hk' hk e he hb
      rw [heq, hDi] at this
      cases this
    exact (Oper.apart_spec hap).2.1 d (by simpa [dstA, ho] using hdi) (by simpa [dstA, hk'] using hd)
  rw [this]
  simp [dstA, ho]
/-- What an early operation does to the heap. -/
theorem Rn.early {i : Nat} {o : Oper} (ho : ops[i]? = some o) (hg : o.guard = none) (he : erl Γ o = true) : (isF o = false ∧ H (i + 1) = H i ∧ ∀ l, valA P Γ ops o ⟨T i, H i ++ l⟩ = some (v i, H i ++ l)) ∨
    (isF o = true ∧ ∃ t x y sz bytes e z n m, o.op = .makeSlice t x y ∧ elemSz P t = some (sz, bytes, e) ∧ zeroE P e sz = some z ∧ aeval (T i) x = .rv (.int .i64 n) ∧ aeval (T i) y = .rv (.int .i64 m) ∧ 0 ≤ n ∧ n ≤ m ∧ m ≤ room ∧ bytes * m ≤ room ∧ v i = .sl (H i).length 0 0 n.toNat ∧ H (i + 1) = H i ++ [⟨0, sz, zrep z n.toNat⟩]) := by
  obtain ⟨hv, _⟩ := C.step i o ho
  cases hF : isF o with
  | false =>
    refine .inl ⟨rfl, ?_⟩
    unfold erl at he
    rw [hF, Bool.false_or, Bool.or_eq_true, beq_iff_eq] at he
    rcases he with hc | hL
    · have := valA_free P Γ ops hc hv
      exact ⟨this.1, fun l => this.2 _⟩
    · obtain ⟨t, x, hop⟩ := isL_load hL
      have h1 := (valA_op P Γ ops hg).1 hv
      have e0 := aop_reads P Γ o (load_calm Γ hop) h1
      exact ⟨e0, fun l => (valA_op P Γ ops hg).2 (load_app P Γ hop l h1)⟩
  | true =>
    refine .inr ⟨rfl, ?_⟩
    have h1 := (valA_op P Γ ops hg).1 hv
    unfold isF at hF
    split at hF
    case h_2 => cases hF
    rename_i t x y hop
    unfold aopO aop at h1
    rw [hop] at h1
    simp only at h1
    split at h1
    case h_2 => cases h1
    rename_i sz bytes e hel
    split at h1
    case h_2 => cases h1
    rename_i z hz
    rcases bsq_inv h1 with ⟨_, h1⟩ | ⟨h2, _⟩
    · obtain ⟨n, hx, h1⟩ := asInt_inv h1
      unfold mks at h1
      split at h1
      · rename_i hc
        have h1 := Option.some.inj h1
        injection h1 with k1 k2
        exact ⟨t, x, y, sz, bytes, e, z, n, n, hop, hel, hz, hx, by rw [← sameOp_eq hF]; exact hx, hc.1, Int.le_refl _, hc.2.1, hc.2.2, k1.symm, k2.symm⟩
      · cases h1
    · rw [hF] at h2
      cases h2
theorem Rn.app {q : Nat} (hg : ∀ (k : Nat) (o : Oper), ops[k]? = some o → o.guard = none) (hq : ∀ k, k < q → ∃ o, ops[k]? = some o ∧ erl Γ o = true) : ∀ (m i : Nat), i + m ≤ q → ∃ l, H (i + m) = H i ++ l
  | 0, i, _ => ⟨[], by simp⟩
  | m + 1, i, h => by
    obtain ⟨l, e⟩ := Rn.app hg hq m i (by omega)
    obtain ⟨o, ho, he⟩ := hq (i + m) (by omega)
    rcases Rn.early C ho (hg _ _ ho) he with ⟨_, e2, _⟩ | ⟨_, t, x, y, sz, bytes, e', z, n, m', _, _, _, _, _, _, _, _, _, _, e2⟩
    · exact ⟨l, by rw [← Nat.add_assoc, e2, e]⟩
    · exact ⟨l ++ [⟨0, sz, zrep z n.toNat⟩], by rw [← Nat.add_assoc, e2, e, List.append_assoc]⟩
/-- The late ones, one behind the other. -/
theorem Rn.late (hok : fOk Γ ops (ancs ops.toList) = true) : ∀ (fuel j : Nat) (listed : Array Bool), listed.size = ops.size → Closed ops listed → qOf Γ ops.toList ≤ j → j + fuel = ops.size → (∀ k, k < ops.size → listed.getD k false = decide (k < j)) →
    anyA P Γ ops ⟨T ops.size, H ops.size⟩ fuel listed ⟨T j, H j⟩
  | 0, j, listed, hs, hcl, hq, hj, hD => by
    refine ⟨List.eq_nil_iff_forall_not_mem.2 fun i hi => ?_, ?_⟩
    · obtain ⟨hun, o, ho, _⟩ := mem_ready.1 hi
      have hil := (Array.getElem?_eq_some_iff.1 ho).1
      have := hD i hil
      rw [getD_size hs hil] at hun this
      rw [hun] at this
      simp at this
      omega
    · have : j = ops.size := by omega
      rw [this]
  | fuel + 1, j, listed, hs, hcl, hq, hj, hD => by
    obtain ⟨hlex, hg, _, hord⟩ := fOk_spec Γ ops hok
    obtain ⟨l1, l2⟩ := lex_of ops hlex
    refine ⟨fun h => absurd h (ready_some l1 hs j (by omega) (by rw [hD j (by omega)]; simp)), fun i hi => ?_⟩
    obtain ⟨hun, o, ho, hall⟩ := mem_ready.1 hi
    have hil := (Array.getElem?_eq_some_iff.1 ho).1
    have hij : i = j := by
      have h1 := hD i hil
      rw [getD_size hs hil] at hun h1
      rw [hun] at h1
      have h1 : ¬ i < j := by simpa using h1
      rcases Nat.lt_or_ge j i with h2 | h2
      · have h3 := ord_dn (D := fun k => listed.getD k false) ops (closed_D hs hcl) i j o ho (hord j i (by omega) h2 hil) hall
        simp only [hD j (by omega)] at h3
        simp at h3
      · omega
    subst hij
    obtain ⟨hv, ht⟩ := C.step i o ho
    refine ⟨⟨T (i + 1), H (i + 1)⟩, by rw [stepA_val P Γ ops ho, hv, Option.map_some, ht], Rn.late hok fuel (i + 1) _ (by simpa using hs) (hcl.step ops hs hi) (by omega) (by omega) fun k hk => ?_⟩
    rw [getD_setIf hs hil]
    by_cases e : k = i
    · subst e; simp
    · rw [if_neg e, hD k hk]
      congr 1
      simp only [eq_iff_iff]
      omega
theorem Rn.sound (good : Good P Γ) (hok : fOk Γ ops (ancs ops.toList) = true) {B : Bs} (hB : B.h.length ≤ (H 0).length) {rr : Option Nat} {nn : Nat} : ∀ (fuel : Nat) (listed : Array Bool) (a : Act) (w : World), listed.size = ops.size → Closed ops listed → (∀ k, qOf Γ ops.toList ≤ k → k < ops.size → listed.getD k false = false) → (List.range ops.size).countP (fun k => !listed.getD k false) = fuel →
    SimP B (fun n => ∃ i o, i < qOf Γ ops.toList ∧ ops[i]? = some o ∧ isF o = true ∧ listed.getD i false = false ∧ n = (H i).length) ⟨TD ops (T 0) v (fun k => listed.getD k false) ops.size, H (qOf Γ ops.toList)⟩ a w →
      wpAnyIn (FW rr) nn P .any ops (ExQ B .normal ⟨T ops.size, H ops.size⟩) fuel listed a w := by
  obtain ⟨hlex, hg, hearly, hord⟩ := fOk_spec Γ ops hok
  obtain ⟨l1, l2⟩ := lex_of ops hlex
  have hqs : qOf Γ ops.toList ≤ ops.size := by
    apply Classical.byContradiction
    intro h
    obtain ⟨o, ho, _⟩ := hearly ops.size (by omega)
    have := (Array.getElem?_eq_some_iff.1 ho).1
    omega
  have allDone : ∀ (fuel : Nat) (listed : Array Bool) (a : Act) (w : World), listed.size = ops.size → Closed ops listed → (∀ k, qOf Γ ops.toList ≤ k → k < ops.size → listed.getD k false = false) → (List.range ops.size).countP (fun k => !listed.getD k false) = fuel →
      SimP B (fun n => ∃ i o, i < qOf Γ ops.toList ∧ ops[i]? = some o ∧ isF o = true ∧ listed.getD i false = false ∧ n = (H i).length) ⟨TD ops (T 0) v (fun k => listed.getD k false) ops.size, H (qOf Γ ops.toList)⟩ a w →
      (∀ k, k < qOf Γ ops.toList → listed.getD k false = true) → wpAnyIn (FW rr) nn P .any ops (ExQ B .normal ⟨T ops.size, H ops.size⟩) fuel listed a w := by
    intro fuel listed a w hs hcl hlate hc hS hdone
    have hD : ∀ k, k < ops.size → listed.getD k false = decide (k < qOf Γ ops.toList) := by
      intro k hk
      by_cases h : k < qOf Γ ops.toList
      · rw [hdone k h]; simp [h]
      · rw [hlate k (by omega) hk]; simp [h]
    have hst : TD ops (T 0) v (fun k => listed.getD k false) ops.size = T (qOf Γ ops.toList) := by
      rw [TD_low ops ops.size hD, TD_cut ops ops.size hqs, ← Rn.td C _ hqs]
    rw [hst] at hS
    have hcnt : qOf Γ ops.toList + fuel = ops.size := by
      have h1 : (List.range ops.size).countP (fun k => !listed.getD k false) = (List.range ops.size).countP (fun k => decide (qOf Γ ops.toList ≤ k)) := by
        refine List.countP_congr fun k hk => ?_
        have := hD k (List.mem_range.1 hk)
        rw [this]
        simp
      rw [h1] at hc
      have h2 : ∀ (q n : Nat), q ≤ n → q + (List.range n).countP (fun k => decide (q ≤ k)) = n := by
        intro q n
        induction n with
        | zero => intro h; simp; omega
        | succ n ih =>
          intro h
          rw [List.range_succ, List.countP_append]
          by_cases e : q = n + 1
          · subst e
            have : (List.range n).countP (fun k => decide (n + 1 ≤ k)) = 0 := by
              rw [List.countP_eq_zero]
              intro k hk
              have := List.mem_range.1 hk
              simp
              omega
            rw [this]
            simp
          · have := ih (by omega)
            have h3 : q ≤ n := by omega
            simp [h3]
            omega
      have := h2 _ _ hqs
      omega
    exact anyA_sound good fuel listed _ a w (Rn.late C hok fuel _ listed hs hcl (Nat.le_refl _) hcnt hD) hS.sim
  intro fuel
  induction fuel with
  | zero =>
    intro listed a w hs hcl hlate hc hS
    exact allDone 0 listed a w hs hcl hlate hc hS fun k hk => cnt_zero hc k (by omega)
  | succ fuel ih =>
    intro listed a w hs hcl hlate hc hS
    by_cases hdone : ∀ k, k < qOf Γ ops.toList → listed.getD k false = true
    · exact allDone _ listed a w hs hcl hlate hc hS hdone
    · have : ∃ k0, k0 < qOf Γ ops.toList ∧ listed.getD k0 false = false := by
        apply Classical.byContradiction
        intro hn
        exact hdone fun k hk => by
          cases h : listed.getD k false with
          | true => rfl
          | false => exact absurd ⟨k, hk, h⟩ hn
      obtain ⟨k0, hk0, hk0f⟩ := this
      refine ⟨fun h => absurd h (ready_some l1 hs k0 (by omega) hk0f), fun i hi => ?_⟩
      obtain ⟨hun, o, ho, hall⟩ := mem_ready.1 hi
      have hil := (Array.getElem?_eq_some_iff.1 ho).1
      have hDi : listed.getD i false = false := by
        rw [getD_size hs hil] at hun ⊢
        exact hun
      have hiq : i < qOf Γ ops.toList := by
        apply Classical.byContradiction
        intro h
        have := ord_dn (D := fun k => listed.getD k false) ops (closed_D hs hcl) i k0 o ho (hord k0 i (by omega) (by omega) hil) hall
        simp only [hk0f] at this
        cases this
      have hgo := hg i o ho
      have hD' : (fun k => (listed.setIfInBounds i true).getD k false) = fun k => listed.getD k false || decide (k = i) := by
        funext k
        rw [getD_setIf hs hil]
        by_cases e : k = i
        · simp [e]
        · simp [e]
      have hadd := Rn.add (T := T) (v := v) hlex (D := fun k => listed.getD k false) (closed_D hs hcl) ho hDi
      have hlook := Rn.look C hlex (D := fun k => listed.getD k false) (closed_D hs hcl) ho hDi hall
      have hlate' : ∀ k, qOf Γ ops.toList ≤ k → k < ops.size → (listed.setIfInBounds i true).getD k false = false := by
        intro k h1 h2
        rw [getD_setIf hs hil, if_neg (by omega)]
        exact hlate k h1 h2
      have hcnt : (List.range ops.size).countP (fun k => !(listed.setIfInBounds i true).getD k false) = fuel := by
        have := cnt_add (D := fun k => listed.getD k false) hDi ops.size hil
        have e : (fun k => !(listed.setIfInBounds i true).getD k false) = fun k => !(listed.getD k false || decide (k = i)) := by
          funext q
          exact congrArg (fun b => !b) (congrFun hD' q)
        rw [e]
        omega
      have up : ∀ k, (listed.setIfInBounds i true).getD k false = false → listed.getD k false = false ∧ k ≠ i := by
        intro k h
        rw [getD_setIf hs hil] at h
        split at h
        · cases h
        · exact ⟨h, ‹_›⟩
      obtain ⟨l, hl⟩ := Rn.app C hg hearly (qOf Γ ops.toList - i) i (by omega)
      rw [show i + (qOf Γ ops.toList - i) = qOf Γ ops.toList by omega] at hl
      obtain ⟨o', ho', her⟩ := hearly i hiq
      rw [ho] at ho'
      cases ho'
      rcases Rn.early C ho hgo her with ⟨hnF, hH, hval⟩ | ⟨hF, t, x, y, sz, bytes, e, z, n, m, hop, hel, hz, hx, hy, h0, hnm, hm, hb, hvi, hH⟩
      · have hs1 : stepA P Γ ops i ⟨TD ops (T 0) v (fun k => listed.getD k false) ops.size, H (qOf Γ ops.toList)⟩ = some ⟨TD ops (T 0) v (fun k => (listed.setIfInBounds i true).getD k false) ops.size, H (qOf Γ ops.toList)⟩ := by
          rw [stepA_val P Γ ops ho, valA_look P Γ ops hgo hlook, hl, hval l, Option.map_some, hD', hadd]
        refine stepA_soundP good hs1 hS fun a' w' hS' => ih _ a' w' (by simpa using hs) (hcl.step ops hs hi) hlate' hcnt ?_
        obtain ⟨J, M, k1, k2, k3, k4, k5⟩ := hS'
        refine ⟨J, M, k1, k2, k3, k4, ?_⟩
        rintro n' ⟨i', oi, g1, g2, g3, g4, rfl⟩
        exact k5 _ ⟨i', oi, g1, g2, g3, (up i' g4).1, rfl⟩
      · have hev : ∀ x ∈ o.op.operands, aeval (TD ops (T 0) v (fun k => listed.getD k false) ops.size) x = aeval (T i) x := by
          intro x hx
          cases x with
          | tmp t =>
            simp only [aeval, tget_eq]
            refine hlook t ?_
            unfold Oper.looksAt
            exact List.mem_append_left _ (List.mem_filterMap.2 ⟨_, Array.mem_toList_iff.2 hx, rfl⟩)
          | _ => rfl
        have hob : (H (qOf Γ ops.toList))[(H i).length]? = some ⟨0, sz, zrep z n.toNat⟩ := by
          obtain ⟨l2, hl2⟩ := Rn.app C hg hearly (qOf Γ ops.toList - (i + 1)) (i + 1) (by omega)
          rw [show i + 1 + (qOf Γ ops.toList - (i + 1)) = qOf Γ ops.toList by omega] at hl2
          rw [hl2, hH, List.append_assoc, List.getElem?_append_right (Nat.le_refl _)]
          simp
        have hB' : B.h.length ≤ (H i).length := by
          obtain ⟨l2, hl2⟩ := Rn.app C hg hearly i 0 (by omega)
          rw [Nat.zero_add] at hl2
          rw [hl2, List.length_append]
          omega
        refine fill_soundP ho hgo hop hel hz ((hev x (by rw [hop]; simp [Op.operands])).trans hx) ((hev y (by rw [hop]; simp [Op.operands])).trans hy) h0 hnm hm hb hS hob hB' ⟨i, o, hiq, ho, hF, hDi, rfl⟩
          (pd' := fun n => ∃ i' o, i' < qOf Γ ops.toList ∧ ops[i']? = some o ∧ isF o = true ∧ (listed.setIfInBounds i true).getD i' false = false ∧ n = (H i').length) ?_ fun a' w' hS' => ih _ a' w' (by simpa using hs) (hcl.step ops hs hi) hlate' hcnt ?_
        · rintro n' ⟨i', oi, g1, g2, g3, g4, rfl⟩
          obtain ⟨g5, g6⟩ := up i' g4
          refine ⟨⟨i', oi, g1, g2, g3, g5, rfl⟩, ?_⟩
          rcases Nat.lt_or_ge i i' with h | h
          · obtain ⟨l2, hl2⟩ := Rn.app C hg hearly (i' - (i + 1)) (i + 1) (by omega)
            rw [show i + 1 + (i' - (i + 1)) = i' by omega] at hl2
            rw [hl2, hH]
            simp
          · obtain ⟨o2, ho2, her2⟩ := hearly i' g1
            rw [g2] at ho2
            cases ho2
            rcases Rn.early C g2 (hg _ _ g2) her2 with ⟨k1, _⟩ | ⟨_, t2, x2, y2, sz2, b2, e2, z2, n2, m2, _, _, _, _, _, _, _, _, _, _, hH2⟩
            · rw [g3] at k1; cases k1
            · obtain ⟨l2, hl2⟩ := Rn.app C hg hearly (i - (i' + 1)) (i' + 1) (by omega)
              rw [show i' + 1 + (i - (i' + 1)) = i by omega] at hl2
              rw [hl2, hH2]
              simp
        · rw [hD', hadd, hvi]
          exact hS'
end
theorem regF_any (good : Good P Γ) {R : Type} {σ : St} {K : Cont R} {r : R} (hk : regF P Γ ops σ K = some r) :
    ∃ σf, K .normal σf = some r ∧ ∀ rr nn B a w, Sim B σ a w → wpAnyIn (FW rr) nn P .any ops (ExQ B .normal σf) ops.size (Array.replicate ops.size false) a w := by
  rw [regF_eq] at hk
  rcases bsq_inv hk with ⟨hok, hk⟩ | ⟨_, hk⟩
  case inr => cases hk
  rw [List.range_eq_range'] at hk
  obtain ⟨T, H, e1, e2, h1, h2⟩ := aops_run P Γ ops good ops.size 0 σ (by simp) hk
  obtain ⟨hlex, hg, hearly, hord⟩ := fOk_spec Γ ops hok
  refine ⟨_, h2, fun rr nn B a w hS => ?_⟩
  let v : Nat → AV := fun k => (((ops[k]?).bind fun o => valA P Γ ops o ⟨T k, H k⟩).map (·.1)).getD .any
  have C : Rn P Γ ops T H v := by
    refine ⟨fun k o ho => ?_⟩
    have hk := (Array.getElem?_eq_some_iff.1 ho).1
    have h3 := h1 k (Nat.zero_le _) hk
    rw [stepA_val P Γ ops ho] at h3
    cases hv : valA P Γ ops o ⟨T k, H k⟩ with
    | none => rw [hv] at h3; cases h3
    | some x =>
      rw [hv, Option.map_some] at h3
      have hvk : v k = x.1 := by
        show (((ops[k]?).bind fun o => valA P Γ ops o ⟨T k, H k⟩).map (·.1)).getD .any = x.1
        rw [ho, Option.bind_some, hv]
        rfl
      have h4 := Option.some.inj h3
      have h5 : putA o.dst x.1 (T k) = T (k + 1) := congrArg St.tmps h4
      have h6 : x.2 = H (k + 1) := congrArg St.heap h4
      rw [hvk, ← h5, ← h6]
      exact ⟨rfl, rfl⟩
  have hf : ∀ k, (Array.replicate ops.size false).getD k false = false := fun k => by simp [Array.getD]
  have hcl : Closed ops (Array.replicate ops.size false) := by
    intro j oj hoj hj
    have := (Array.getElem?_eq_some_iff.1 hoj).1
    simp [Array.getD, this] at hj
  obtain ⟨l, hl⟩ := Rn.app C hg hearly (qOf Γ ops.toList) 0 (by omega)
  rw [Nat.zero_add] at hl
  obtain ⟨J, M, st, hs, hv, hd⟩ := hS
  have hBl : B.h.length ≤ (H 0).length := by rw [e2]; exact st.len
  refine Rn.sound C good hok hBl ops.size _ a w (by simp) hcl (fun k _ _ => hf k) (by simp only [hf]; simp) ?_
  have h0 : ∀ n, TD ops (T 0) v (fun _ => false) n = T 0 := by
    intro n
    induction n with
    | zero => rfl
    | succ n ih => rw [TD, if_neg (by decide), ih]
  simp only [hf, h0]
  rw [hl, e1, e2]
  refine ⟨J, M, st.trans (st.hr.ahead l), hs, hv, hd, ?_⟩
  rintro n' ⟨i, o, hi, ho, hF, _, rfl⟩
  obtain ⟨o2, ho2, her2⟩ := hearly i hi
  rw [ho] at ho2
  cases ho2
  rcases Rn.early C ho (hg _ _ ho) her2 with ⟨k1, _⟩ | ⟨_, t2, x2, y2, sz2, b2, e2', z2, n2, m2, _, _, _, _, _, _, _, _, _, _, hH2⟩
  · rw [hF] at k1; cases k1
  · obtain ⟨l2, hl2⟩ := Rn.app C hg hearly (qOf Γ ops.toList - (i + 1)) (i + 1) (by omega)
    rw [show i + 1 + (qOf Γ ops.toList - (i + 1)) = qOf Γ ops.toList by omega] at hl2
    obtain ⟨l3, hl3⟩ := Rn.app C hg hearly i 0 (by omega)
    rw [Nat.zero_add] at hl3
    have hlt : (H i).length < (σ.heap ++ l).length := by
      rw [← e2, ← hl, hl2, hH2]
      simp
    refine ⟨hlt, fun q => ?_⟩
    cases e : J (H i).length q with
    | none => rfl
    | some e0 =>
      obtain ⟨ob, hob, _⟩ := st.hr.key _ _ _ e
      have := (List.getElem?_eq_some_iff.1 hob).1
      have h9 : σ.heap.length ≤ (H i).length := by rw [hl3, e2]; simp
      omega
end
end Go.Proofs.Ytknphnmhjmejaaa
