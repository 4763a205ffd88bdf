/-  The abstract machine: regions in any order in which loads do not wait for what writes. No conditions. -/
import Derived.Test.YtknphnmhjmejaaaAmSi
namespace Go.Proofs.Ytknphnmhjmejaaa
set_option linter.unusedVariables false
set_option linter.unusedSimpArgs false
section
variable (P : Program) (Γ : FuncId → Option Callee) (ops : Array Oper)
/-- The place reads so. -/
def SldP (t : TypeId) (h : Hp) (p v : AV) : Prop :=
  match P.underlying t with
  | some (.struct _) => ∃ l, cellsN h p 0 (P.cellsOf t) = some l ∧ v = .agg l
  | some (.array ..) => ∃ l, cellsN h p 0 (P.cellsOf t) = some l ∧ v = .agg l
  | _ => cellAt h p 0 = some v
theorem sld_inv {R : Type} {t : TypeId} {h : Hp} {p v : AV} {K : Option R} {r : R} (hk : sld P t h p v K = some r) : SldP P t h p v ∧ K = some r := by
  unfold sld at hk
  unfold SldP
  split at hk
  · rename_i hd
    rw [hd]
    unfold svg at hk
    split at hk
    · exact ⟨‹_›, hk⟩
    · cases hk
  · rename_i hd
    rw [hd]
    unfold svg at hk
    split at hk
    · exact ⟨‹_›, hk⟩
    · cases hk
  · rename_i n1 n2
    unfold sv1 at hk
    split at hk
    · rename_i hc
      refine ⟨?_, hk⟩
      split
      · exact absurd ‹_› (n1 _)
      · exact absurd ‹_› (n2 _ _)
      · exact hc
    · cases hk
theorem sld_val {o : Oper} {t : TypeId} {x : Operand} (ho : o.op = .load t x) {ts : List AV} {h h2 : Hp} {v : AV} (hk : aopO P Γ o ⟨ts, h⟩ = some (.val v h)) (hs : SldP P t h2 (aeval ts x) v) : aopO P Γ o ⟨ts, h2⟩ = some (.val v h2) := by
  unfold aopO aop at hk ⊢
  rw [ho] at hk ⊢
  unfold SldP at hs
  simp only at hk ⊢
  split at hk
  · cases hk
  · rename_i hd
    rw [hd] at hs
    obtain ⟨l, hl, rfl⟩ := hs
    rcases bsq_inv hk with ⟨_, hk⟩ | ⟨h0, hk⟩
    · cases hk
    · simp only [h0, bsq, ldg, hl]
  · rename_i hd
    rw [hd] at hs
    obtain ⟨l, hl, rfl⟩ := hs
    rcases bsq_inv hk with ⟨_, hk⟩ | ⟨h0, hk⟩
    · cases hk
    · simp only [h0, bsq, ldg, hl]
  · rename_i k hd
    rw [hd] at hs
    simp only at hs
    unfold ldi at hk ⊢
    obtain ⟨y, hy, hk⟩ := ldv_inv hk
    obtain ⟨n, hn, hk⟩ := asInt_inv hk
    cases hk
    simp [ldv, hs, asInt0]
  · rename_i hd
    rw [hd] at hs
    simp only at hs
    unfold ldb at hk ⊢
    obtain ⟨y, hy, hk⟩ := ldv_inv hk
    obtain ⟨n, hn, hk⟩ := asBool_inv hk
    cases hk
    simp [ldv, hs, asBool0]
  · rename_i d n1 n2 n3 n4 hd
    rw [hd] at hs
    obtain ⟨y, hy, hk⟩ := ldv_inv hk
    cases hk
    have hs' : cellAt h2 (aeval ts x) 0 = some v := by
      cases d <;> simp_all
    simp [ldv, hs']
theorem ckP_inv {R : Type} {an : List Nat} {j : Nat} {h : Hp} {K : Option R} {r : R} : ∀ {pend : Pend}, ckP P an j h pend K = some r → (∀ x ∈ pend, ordT an x.1 j = false → SldP P x.2.1 h x.2.2.1 x.2.2.2) ∧ K = some r
  | [], hk => ⟨by simp, hk⟩
  | x :: pend, hk => by
    rcases bsq_inv (show bsq (ordT an x.1 j) (ckP P an j h pend K) (sld P x.2.1 h x.2.2.1 x.2.2.2 (ckP P an j h pend K)) = some r from hk) with ⟨ho, hk⟩ | ⟨ho, hk⟩
    · obtain ⟨h1, h2⟩ := ckP_inv hk
      refine ⟨fun y hy hn => ?_, h2⟩
      rcases List.mem_cons.1 hy with rfl | hy
      · rw [ho] at hn; cases hn
      · exact h1 y hy hn
    · obtain ⟨h3, hk⟩ := sld_inv P hk
      obtain ⟨h1, h2⟩ := ckP_inv hk
      refine ⟨fun y hy hn => ?_, h2⟩
      rcases List.mem_cons.1 hy with rfl | hy
      · exact h3
      · exact h1 y hy hn
theorem ckH_inv {R : Type} {an : List Nat} {i : Nat} {t : TypeId} {p v : AV} {K : Option R} {r : R} : ∀ {hs : List (Nat × Hp)}, ckH P an i t p v hs K = some r → (∀ x ∈ hs, ordT an x.1 i = false → SldP P t x.2 p v) ∧ K = some r
  | [], hk => ⟨by simp, hk⟩
  | x :: hs, hk => by
    rcases bsq_inv (show bsq (ordT an x.1 i) (ckH P an i t p v hs K) (sld P t x.2 p v (ckH P an i t p v hs K)) = some r from hk) with ⟨ho, hk⟩ | ⟨ho, hk⟩
    · obtain ⟨h1, h2⟩ := ckH_inv hk
      refine ⟨fun y hy hn => ?_, h2⟩
      rcases List.mem_cons.1 hy with rfl | hy
      · rw [ho] at hn; cases hn
      · exact h1 y hy hn
    · obtain ⟨h3, hk⟩ := sld_inv P hk
      obtain ⟨h1, h2⟩ := ckH_inv hk
      refine ⟨fun y hy hn => ?_, h2⟩
      rcases List.mem_cons.1 hy with rfl | hy
      · exact h3
      · exact h1 y hy hn
/-- What the operations did, one behind the other. -/
structure Can (an : List Nat) (pend : Pend) (hs : List (Nat × Hp)) (i m : Nat) (T : Nat → List AV) (H : Nat → Hp) (v : Nat → AV) : Prop where
  step : ∀ k o, i ≤ k → k < m → ops[k]? = some o → valA P Γ ops o ⟨T k, H k⟩ = some (v k, H (k + 1)) ∧ T (k + 1) = putA o.dst (v k) (T k)
  fwd : ∀ k o j oj, i ≤ k → k < j → j < m → ops[k]? = some o → isL o = true → isW Γ o = false → ops[j]? = some oj → isW Γ oj = true → ordT an k j = false → valA P Γ ops o ⟨T k, H (j + 1)⟩ = some (v k, H (j + 1))
  bck : ∀ k o j oj, i ≤ j → j < k → k < m → ops[k]? = some o → isL o = true → isW Γ o = false → ops[j]? = some oj → isW Γ oj = true → ordT an j k = false → valA P Γ ops o ⟨T k, H j⟩ = some (v k, H j)
  pnd : ∀ x ∈ pend, ∀ j oj, i ≤ j → j < m → ops[j]? = some oj → isW Γ oj = true → ordT an x.1 j = false → SldP P x.2.1 (H (j + 1)) x.2.2.1 x.2.2.2
  hst : ∀ x ∈ hs, ∀ k o, i ≤ k → k < m → ops[k]? = some o → isL o = true → isW Γ o = false → ordT an x.1 k = false → valA P Γ ops o ⟨T k, x.2⟩ = some (v k, x.2)
theorem valA_op {o : Oper} (hg : o.guard = none) {σ : St} {v : AV} {h : Hp} : valA P Γ ops o σ = some (v, h) ↔ aopO P Γ o σ = some (.val v h) := by
  unfold valA
  simp only [hg]
  constructor
  · intro hk
    split at hk
    · rename_i e
      cases hk
      exact e
    · cases hk
  · intro hk
    rw [hk]
theorem aopsW_cons {R : Type} (all : List Oper) (an : List Nat) (o : Oper) (tl : List Oper) (i : Nat) (pend : Pend) (hs : List (Nat × Hp)) (σ : St) (K : Cont R) : aopsW P Γ all an (o :: tl) i pend hs σ K = aop P Γ o σ
      (fun v h => fcd (putA o.dst v σ.tmps) fun ts => bsq (isW Γ o)
        (ckP P an i h pend (aopsW P Γ all an tl (i + 1) pend (hs ++ [(i, σ.heap)]) ⟨ts, h⟩ K))
        (match o.op with
          | .load t x => ckH P an i t (aeval σ.tmps x) v hs (aopsW P Γ all an tl (i + 1) (pend ++ [(i, t, aeval σ.tmps x, v)]) hs ⟨ts, h⟩ K)
          | _ => aopsW P Γ all an tl (i + 1) pend hs ⟨ts, h⟩ K))
      (fun v h => bsq (drl true tl.isEmpty all) none (K (.pan v) ⟨σ.tmps, h⟩)) := rfl
/-- The last operation's panic. -/
def PanW (m : Nat) (σ : St) (v : AV) (h' : Hp) : Prop := PanAt P ops m σ v h' ∧ depOk ops.toList = true
theorem isL_load {o : Oper} (h : isL o = true) : ∃ t x, o.op = .load t x := by
  unfold isL at h
  split at h
  · exact ⟨_, _, ‹_›⟩
  · cases h
theorem load_calm {o : Oper} {t : TypeId} {x : Operand} (h : o.op = .load t x) : calmO Γ o.op = 1 := by rw [h]; rfl
theorem aopsW_run (good : Good P Γ) {R : Type} (an : List Nat) (hg : ∀ (k : Nat) (o : Oper), ops[k]? = some o → o.guard = none) {K : Cont R} {r : R} : ∀ (l : List Oper) (i : Nat) (pend : Pend) (hs : List (Nat × Hp)) (σ : St), ops.toList.drop i = l → aopsW P Γ ops.toList an l i pend hs σ K = some r →
    ∃ m T H v, T i = σ.tmps ∧ H i = σ.heap ∧ Can P Γ ops an pend hs i m T H v ∧ i ≤ m ∧ ((m = i + l.length ∧ K .normal ⟨T m, H m⟩ = some r) ∨ (m + 1 = i + l.length ∧ ∃ v' h', PanW P ops m ⟨T m, H m⟩ v' h' ∧ K (.pan v') ⟨T m, h'⟩ = some r))
  | [], i, pend, hs, σ, hl, hk => ⟨i, fun _ => σ.tmps, fun _ => σ.heap, fun _ => .any, rfl, rfl, ⟨fun k o h1 h2 => absurd h2 (by omega), fun k o j oj h1 h2 h3 => absurd h3 (by omega), fun k o j oj h1 h2 h3 => absurd h3 (by omega), fun x _ j oj h1 h2 => absurd h2 (by omega), fun x _ k o h1 h2 => absurd h2 (by omega)⟩, Nat.le_refl _, .inl ⟨rfl, hk⟩⟩
  | o :: tl, i, pend, hs, σ, hl, hk => by
    have ho : ops[i]? = some o := by
      have := congrArg (fun x => x[0]?) hl
      simpa using this
    have hl' : ops.toList.drop (i + 1) = tl := by
      have := congrArg List.tail hl
      simpa using this
    have hgo := hg i o ho
    rw [aopsW_cons] at hk
    rw [aop_nat] at hk
    cases hO : aopO P Γ o σ with
    | none => rw [hO] at hk; cases hk
    | some out =>
      rw [hO] at hk
      cases out with
      | pan v' h' =>
        have hk : bsq (drl true tl.isEmpty ops.toList) none (K (.pan v') ⟨σ.tmps, h'⟩) = some r := hk
        rcases bsq_inv hk with ⟨_, hk9⟩ | ⟨hd, hk9⟩
        · cases hk9
        · cases tl with
          | cons a b => cases hd
          | nil =>
            refine ⟨i, fun _ => σ.tmps, fun _ => σ.heap, fun _ => .any, rfl, rfl, ⟨fun k o h1 h2 => absurd h2 (by omega), fun k o j oj h1 h2 h3 => absurd h3 (by omega), fun k o j oj h1 h2 h3 => absurd h3 (by omega), fun x _ j oj h1 h2 => absurd h2 (by omega), fun x _ k o h1 h2 => absurd h2 (by omega)⟩, Nat.le_refl _, .inr ⟨rfl, v', h', ⟨?_, by simpa [drl] using hd⟩, hk9⟩⟩
            intro rr nn B a w hS K2
            have hnd := aop_nodefer (R := Out) hO
            unfold aopO at hO
            rcases aop_sound (ts := σ.tmps) (h := σ.heap) good hO with ⟨v2, h2, e, H⟩ | ⟨v2, h2, e, H⟩
            · cases e
            · cases e
              unfold wpOpIn
              simp only [ho, Region.wanted, hgo, if_true]
              exact opPan_wpIn H hnd hS fun x a' w' hx => hx
      | val v0 h0 =>
        have hk : (fcd (putA o.dst v0 σ.tmps) fun ts => bsq (isW Γ o)
          (ckP P an i h0 pend (aopsW P Γ ops.toList an tl (i + 1) pend (hs ++ [(i, σ.heap)]) ⟨ts, h0⟩ K))
          (match o.op with
            | .load t x => ckH P an i t (aeval σ.tmps x) v0 hs (aopsW P Γ ops.toList an tl (i + 1) (pend ++ [(i, t, aeval σ.tmps x, v0)]) hs ⟨ts, h0⟩ K)
            | _ => aopsW P Γ ops.toList an tl (i + 1) pend hs ⟨ts, h0⟩ K)) = some r := hk
        rw [fcd_eq] at hk
        have mk : ∀ (pend' : Pend) (hs' : List (Nat × Hp)) (m : Nat) (T : Nat → List AV) (H : Nat → Hp) (v : Nat → AV), T (i + 1) = putA o.dst v0 σ.tmps → H (i + 1) = h0 → Can P Γ ops an pend' hs' (i + 1) m T H v →
            (∀ x ∈ pend, x ∈ pend') → (∀ x ∈ hs, x ∈ hs') → (isW Γ o = true → (i, σ.heap) ∈ hs') → (isL o = true → isW Γ o = false → ∃ t x, o.op = .load t x ∧ (i, t, aeval σ.tmps x, v0) ∈ pend') →
            (isW Γ o = true → ∀ x ∈ pend, ordT an x.1 i = false → SldP P x.2.1 h0 x.2.2.1 x.2.2.2) → (isL o = true → isW Γ o = false → ∀ x ∈ hs, ordT an x.1 i = false → valA P Γ ops o ⟨σ.tmps, x.2⟩ = some (v0, x.2)) →
            Can P Γ ops an pend hs i m (fun k => if k = i then σ.tmps else T k) (fun k => if k = i then σ.heap else H k) (fun k => if k = i then v0 else v k) := by
          intro pend' hs' m T H v hT hH C p1 p2 p3 p4 p5 p6
          have hv0 : valA P Γ ops o σ = some (v0, h0) := (valA_op P Γ ops hgo).2 hO
          refine ⟨?_, ?_, ?_, ?_, ?_⟩
          · intro k o' h1 h2 hk'
            by_cases e : k = i
            · subst e
              rw [ho] at hk'
              cases hk'
              simp only [if_true, if_neg (show k + 1 ≠ k by omega), hT, hH]
              exact ⟨hv0, trivial⟩
            · simp only [if_neg e, if_neg (show k + 1 ≠ i by omega)]
              exact C.step k o' (by omega) h2 hk'
          · intro k o' j oj h1 h2 h3 hk' hL hW hj hWj hn
            simp only [if_neg (show j + 1 ≠ i by omega)]
            by_cases e : k = i
            · subst e
              rw [ho] at hk'
              cases hk'
              obtain ⟨t, x, hx, hm⟩ := p4 hL hW
              have h4 := C.pnd _ hm j oj (by omega) h3 hj hWj hn
              have e0 := aop_reads P Γ o (load_calm Γ hx) hO
              subst e0
              simp only [if_true]
              exact (valA_op P Γ ops hgo).2 (sld_val P Γ hx hO h4)
            · simp only [if_neg e]
              exact C.fwd k o' j oj (by omega) h2 h3 hk' hL hW hj hWj hn
          · intro k o' j oj h1 h2 h3 hk' hL hW hj hWj hn
            simp only [if_neg (show k ≠ i by omega)]
            by_cases e : j = i
            · subst e
              rw [ho] at hj
              cases hj
              simp only [if_true]
              exact C.hst _ (p3 hWj) k o' (by omega) h3 hk' hL hW hn
            · simp only [if_neg e]
              exact C.bck k o' j oj (by omega) h2 h3 hk' hL hW hj hWj hn
          · intro x hx j oj h1 h2 hj hWj hn
            simp only [if_neg (show j + 1 ≠ i by omega)]
            by_cases e : j = i
            · subst e
              rw [ho] at hj
              cases hj
              rw [hH]
              exact p5 hWj x hx hn
            · exact C.pnd x (p1 x hx) j oj (by omega) h2 hj hWj hn
          · intro x hx k o' h1 h2 hk' hL hW hn
            by_cases e : k = i
            · subst e
              rw [ho] at hk'
              cases hk'
              simp only [if_true]
              exact p6 hL hW x hx hn
            · simp only [if_neg e]
              exact C.hst x (p2 x hx) k o' (by omega) h2 hk' hL hW hn
        have go : ∀ (pend' : Pend) (hs' : List (Nat × Hp)), aopsW P Γ ops.toList an tl (i + 1) pend' hs' ⟨putA o.dst v0 σ.tmps, h0⟩ K = some r →
            (∀ x ∈ pend, x ∈ pend') → (∀ x ∈ hs, x ∈ hs') → (isW Γ o = true → (i, σ.heap) ∈ hs') → (isL o = true → isW Γ o = false → ∃ t x, o.op = .load t x ∧ (i, t, aeval σ.tmps x, v0) ∈ pend') →
            (isW Γ o = true → ∀ x ∈ pend, ordT an x.1 i = false → SldP P x.2.1 h0 x.2.2.1 x.2.2.2) → (isL o = true → isW Γ o = false → ∀ x ∈ hs, ordT an x.1 i = false → valA P Γ ops o ⟨σ.tmps, x.2⟩ = some (v0, x.2)) →
            ∃ m T H v, T i = σ.tmps ∧ H i = σ.heap ∧ Can P Γ ops an pend hs i m T H v ∧ i ≤ m ∧ ((m = i + (o :: tl).length ∧ K .normal ⟨T m, H m⟩ = some r) ∨ (m + 1 = i + (o :: tl).length ∧ ∃ v' h', PanW P ops m ⟨T m, H m⟩ v' h' ∧ K (.pan v') ⟨T m, h'⟩ = some r)) := by
          intro pend' hs' hk' p1 p2 p3 p4 p5 p6
          obtain ⟨m, T, H, v, e1, e2, C, hm, hfin⟩ := aopsW_run good an hg tl (i + 1) pend' hs' _ hl' hk'
          refine ⟨m, _, _, _, by simp, by simp, mk pend' hs' m T H v e1 e2 C p1 p2 p3 p4 p5 p6, by omega, ?_⟩
          simp only [if_neg (show m ≠ i by omega), List.length_cons]
          rcases hfin with ⟨h1, h2⟩ | ⟨h1, h2⟩
          · exact .inl ⟨by omega, h2⟩
          · exact .inr ⟨by omega, h2⟩
        rcases bsq_inv hk with ⟨hW, hk⟩ | ⟨hW, hk⟩
        · obtain ⟨hc, hk⟩ := ckP_inv P hk
          refine go _ _ hk (fun _ h => h) (fun _ h => List.mem_append_left _ h) (fun _ => by simp) (fun _ h => ?_) (fun _ => hc) (fun _ h => ?_)
          · rw [hW] at h; cases h
          · rw [hW] at h; cases h
        · split at hk
          · rename_i t x hx
            obtain ⟨hc, hk⟩ := ckH_inv P hk
            have e0 := aop_reads P Γ o (load_calm Γ hx) hO
            subst e0
            refine go _ _ hk (fun _ h => List.mem_append_left _ h) (fun _ h => h) (fun h => ?_) (fun _ _ => ⟨t, x, hx, by simp⟩) (fun h => ?_) (fun _ _ y hy hn => (valA_op P Γ ops hgo).2 (sld_val P Γ hx hO (hc y hy hn)))
            · rw [hW] at h; cases h
            · rw [hW] at h; cases h
          · rename_i hno
            refine go _ _ hk (fun _ h => h) (fun _ h => h) (fun h => ?_) (fun h => ?_) (fun h => ?_) (fun h => ?_)
            · rw [hW] at h; cases h
            · obtain ⟨t, x, hx⟩ := isL_load h
              exact absurd hx (hno t x)
            · rw [hW] at h; cases h
            · obtain ⟨t, x, hx⟩ := isL_load h
              exact absurd hx (hno t x)
/-! ### Any order -/
def dstA (k : Nat) : Option Tmp := (ops[k]?).bind (·.dst)
noncomputable def TD (T0 : List AV) (v : Nat → AV) (D : Nat → Bool) : Nat → List AV
  | 0 => T0
  | k + 1 => if D k = true then putA (dstA ops k) (v k) (TD T0 v D k) else TD T0 v D k
def hp (D : Nat → Bool) (Wf : Nat → Bool) : Nat → Nat
  | 0 => 0
  | k + 1 => if D k = true ∧ Wf k = true then k + 1 else hp D Wf k
variable {T0 : List AV} {v : Nat → AV}
theorem putA_len {d : Option Tmp} {x : AV} {l : List AV} : (putA d x l).length = l.length := by
  cases d <;> simp [putA, tset_eq]
theorem TD_len (D : Nat → Bool) : ∀ n, (TD ops T0 v D n).length = T0.length
  | 0 => rfl
  | n + 1 => by
    unfold TD
    split
    · rw [putA_len, TD_len D n]
    · exact TD_len D n
theorem getD_put_same {d : Option Tmp} {x : AV} {l l' : List AV} {t : Nat} (hl : l.length = l'.length) (h : l.getD t .any = l'.getD t .any) : (putA d x l).getD t .any = (putA d x l').getD t .any := by
  cases d with
  | none => exact h
  | some d =>
    simp only [putA, tset_eq, List.getD_eq_getElem?_getD, List.getElem?_set] at h ⊢
    by_cases e : d = t
    · subst e
      simp [hl]
    · simp only [if_neg e]
      exact h
theorem TD_get {D D' : Nat → Bool} {t : Nat} : ∀ n, (∀ k, k < n → D k ≠ D' k → ∀ d, dstA ops k = some d → d ≠ t) → (TD ops T0 v D n).getD t .any = (TD ops T0 v D' n).getD t .any
  | 0, _ => rfl
  | n + 1, h => by
    have ih := TD_get n fun k hk => h k (by omega)
    unfold TD
    cases h1 : D n <;> cases h2 : D' n <;> simp only [if_true, Bool.false_eq_true, if_false]
    · exact ih
    · rw [getD_put (h n (by omega) (by rw [h1, h2]; decide))]; exact ih
    · rw [getD_put (h n (by omega) (by rw [h1, h2]; decide))]; exact ih
    · exact getD_put_same (by rw [TD_len, TD_len]) ih
theorem TD_low {D D' : Nat → Bool} : ∀ n, (∀ k, k < n → D k = D' k) → TD ops T0 v D n = TD ops T0 v D' n
  | 0, _ => rfl
  | n + 1, h => by
    unfold TD
    rw [h n (by omega), TD_low n fun k hk => h k (by omega)]
theorem TD_cut {i : Nat} : ∀ n, i ≤ n → TD ops T0 v (fun k => decide (k < i)) n = TD ops T0 v (fun _ => true) i
  | 0, h => by
    have : i = 0 := by omega
    subst this
    rfl
  | n + 1, h => by
    by_cases e : i = n + 1
    · subst e
      exact TD_low ops _ fun k hk => by simp [hk]
    · have ih := TD_cut (i := i) n (by omega)
      rw [TD, if_neg (by simp; omega)]
      exact ih
theorem TD_add {D : Nat → Bool} {i : Nat} (hi : D i = false) : ∀ n, i < n → (∀ k, i < k → k < n → D k = true → ∀ d, dstA ops k = some d → dstA ops i ≠ some d) →
    TD ops T0 v (fun k => D k || decide (k = i)) n = putA (dstA ops i) (v i) (TD ops T0 v D n)
  | 0, h, _ => by omega
  | n + 1, h, hd => by
    by_cases e : i = n
    · subst e
      rw [TD, TD, if_pos (by simp), if_neg (by rw [hi]; decide), TD_low ops i (D' := D) fun k hk => by simp; omega]
    · have ih := TD_add hi n (by omega) fun k h1 h2 => hd k h1 (by omega)
      rw [TD, ih]
      conv => rhs; rw [TD]
      cases h1 : D n
      · simp only [Bool.false_or, decide_eq_true_eq, if_neg (show ¬ n = i by omega), Bool.false_eq_true, if_false]
      · simp only [Bool.true_or, if_true]
        exact putA_comm _ _ (fun d hdi hdn => hd n (by omega) (by omega) h1 d hdn hdi)
theorem valA_look {o : Oper} (hg : o.guard = none) {ts ts' : List AV} {h : Hp} (hl : ∀ t ∈ o.looksAt ops, ts.getD t .any = ts'.getD t .any) : valA P Γ ops o ⟨ts, h⟩ = valA P Γ ops o ⟨ts', h⟩ := by
  have h1 : aopO P Γ o ⟨ts, h⟩ = aopO P Γ o ⟨ts', h⟩ := aop_congr P Γ o h fun x hx => by
    cases x with
    | tmp t =>
      simp only [aeval, tget_eq]
      refine hl t ?_
      unfold Oper.looksAt
      exact List.mem_append_left _ (List.mem_filterMap.2 ⟨_, Array.mem_toList_iff.2 hx, rfl⟩)
    | _ => rfl
  unfold valA
  simp only [h1, hg]
theorem ancs_snoc (l : List Oper) (o : Oper) : ancs (l ++ [o]) = ancs l ++ [ancM (ancs l) o] := by
  simp [ancs, List.foldl_append]
theorem snoc_ind {α : Type} {p : List α → Prop} (h0 : p []) (h1 : ∀ l a, p l → p (l ++ [a])) (l : List α) : p l := by
  rw [← List.reverse_reverse l]
  induction l.reverse with
  | nil => exact h0
  | cons a l ih => rw [List.reverse_cons]; exact h1 _ _ ih
theorem ancs_len : ∀ (l : List Oper), (ancs l).length = l.length := by
  intro l
  refine snoc_ind (p := fun l => (ancs l).length = l.length) rfl (fun l o ih => ?_) l
  rw [ancs_snoc]; simp [ih]
theorem ancs_pre (l : List Oper) : ∀ (l2 : List Oper) (k : Nat), k < l.length → (ancs (l ++ l2)).getD k 0 = (ancs l).getD k 0 := by
  intro l2
  refine snoc_ind (p := fun l2 => ∀ k, k < l.length → (ancs (l ++ l2)).getD k 0 = (ancs l).getD k 0) ?_ ?_ l2
  · intro k _; rw [List.append_nil]
  · intro l2 o ih k hk
    rw [← List.append_assoc, ancs_snoc]
    have hlt : k < (ancs (l ++ l2)).length := by rw [ancs_len]; simp; omega
    rw [← ih k hk]
    simp only [List.getD_eq_getElem?_getD, List.getElem?_append_left hlt]
theorem ancM_bit {acc : List Nat} {o : Oper} {k : Nat} (h : Nat.testBit (ancM acc o) k = true) : ∃ e ∈ o.after, Region.binds .any e = true ∧ (e.on = k ∨ Nat.testBit (acc.getD e.on 0) k = true) := by
  have key : ∀ l : List Edge, Nat.testBit (l.foldr (fun e m => bif Region.binds .any e then 2 ^ e.on ||| (acc.getD e.on 0 ||| m) else m) 0) k = true → ∃ e ∈ l, Region.binds .any e = true ∧ (e.on = k ∨ Nat.testBit (acc.getD e.on 0) k = true) := by
    intro l
    induction l with
    | nil => intro h; simp at h
    | cons e l ih =>
      intro h
      rw [List.foldr_cons] at h
      cases hb : Region.binds .any e with
      | false =>
        rw [hb, cond_false] at h
        obtain ⟨e', h1, h2⟩ := ih h
        exact ⟨e', List.mem_cons_of_mem _ h1, h2⟩
      | true =>
        rw [hb, cond_true, Nat.testBit_or, Nat.testBit_or, Bool.or_eq_true, Bool.or_eq_true] at h
        rcases h with h | h | h
        · rw [Nat.testBit_two_pow] at h
          exact ⟨e, by simp, hb, .inl (by simpa using h)⟩
        · exact ⟨e, by simp, hb, .inr h⟩
        · obtain ⟨e', h1, h2⟩ := ih h
          exact ⟨e', List.mem_cons_of_mem _ h1, h2⟩
  obtain ⟨e, h1, h2⟩ := key o.after.toList h
  exact ⟨e, Array.mem_toList_iff.1 h1, h2⟩
theorem ord_dir {j k : Nat} {o : Oper} (ho : ops[j]? = some o) (h : ordT (ancs ops.toList) k j = true) : ∃ e ∈ o.after, Region.binds .any e = true ∧ (e.on = k ∨ (e.on < j ∧ ordT (ancs ops.toList) k e.on = true)) := by
  have hj := (Array.getElem?_eq_some_iff.1 ho).1
  have hsplit : ops.toList = (ops.toList.take j ++ [o]) ++ ops.toList.drop (j + 1) := by
    have h1 : ops.toList[j]? = some o := by rw [Array.getElem?_toList]; exact ho
    have h2 : j < ops.toList.length := by simpa using hj
    rw [List.getElem?_eq_getElem h2, Option.some.injEq] at h1
    rw [← h1, List.append_assoc, List.singleton_append, ← List.drop_eq_getElem_cons h2, List.take_append_drop]
  have hlen : (ops.toList.take j).length = j := by simp; omega
  have e1 : (ancs ops.toList).getD j 0 = ancM (ancs (ops.toList.take j)) o := by
    conv => lhs; rw [hsplit]
    rw [ancs_pre _ _ j (by simp; omega), ancs_snoc, List.getD_eq_getElem?_getD, List.getElem?_append_right (by rw [ancs_len]; omega)]
    simp [ancs_len, hlen]
  unfold ordT at h ⊢
  rw [e1] at h
  obtain ⟨e, h1, h2, h3⟩ := ancM_bit h
  refine ⟨e, h1, h2, h3.imp id fun h4 => ?_⟩
  by_cases hlt : e.on < j
  · refine ⟨hlt, ?_⟩
    have := ancs_pre (ops.toList.take j) ([o] ++ ops.toList.drop (j + 1)) e.on (by omega)
    rw [← List.append_assoc, ← hsplit] at this
    rw [this]
    exact h4
  · rw [List.getD_eq_getElem?_getD, List.getElem?_eq_none (by rw [ancs_len]; omega)] at h4
    simp at h4
theorem ord_dn {D : Nat → Bool} (hc : ∀ (j : Nat) (oj : Oper), ops[j]? = some oj → D j = true → ∀ e ∈ oj.after, Region.binds .any e = true → D e.on = true) : ∀ (j k : Nat) (o : Oper), ops[j]? = some o → ordT (ancs ops.toList) k j = true → (∀ e ∈ o.after, Region.binds .any e = true → D e.on = true) → D k = true := by
  intro j
  induction j using Nat.strongRecOn with
  | _ j ih =>
    intro k o ho h hd
    obtain ⟨e, h1, h2, h3⟩ := ord_dir ops ho h
    rcases h3 with rfl | ⟨h3, h4⟩
    · exact hd e h1 h2
    · have hlt : e.on < ops.size := by have := (Array.getElem?_eq_some_iff.1 ho).1; omega
      have he := Array.getElem?_eq_getElem hlt
      exact ih e.on h3 k _ he h4 (hc _ _ he (hd e h1 h2))
theorem getD_setIf {l : Array Bool} {n i j : Nat} (hs : l.size = n) (hi : i < n) (b : Bool) : (l.setIfInBounds i true).getD j b = if j = i then true else l.getD j b := by
  by_cases e : j = i
  · subst e
    simp [Array.getD, hs, hi]
  · rw [if_neg e, getD_set_ne b (fun h => e h.symm)]
theorem lex_from : ∀ (n k : Nat) (listed : Array Bool), k + n = ops.size → listed.size = ops.size → (∀ j, listed.getD j false = decide (j < k)) → (∀ j, j < ops.size → listed.getD j true = decide (j < k)) → Region.lexFrom .any ops n k listed = true →
    (∀ (j : Nat) (o : Oper), k ≤ j → ops[j]? = some o → ∀ e ∈ o.after, Region.binds .any e = true → e.on < j) ∧ (∀ (i j : Nat) (oi oj : Oper), k ≤ i → i < j → ops[i]? = some oi → ops[j]? = some oj → (∀ e ∈ oj.after, Region.binds .any e = true → e.on ≠ i) → oi.apart ops oj = true)
  | 0, k, listed, hk, _, _, _, _ => ⟨fun j o hj ho => by have := (Array.getElem?_eq_some_iff.1 ho).1; omega, fun i j oi oj hi hj ho => by have := (Array.getElem?_eq_some_iff.1 ho).1; omega⟩
  | n + 1, k, listed, hk, hsz, hl, hl', hB => by
    rw [Region.lexFrom] at hB
    simp only [Bool.and_eq_true] at hB
    obtain ⟨⟨hr, hf⟩, hB'⟩ := hB
    have hr' : k ∈ Region.ready .any ops listed := by simpa using hr
    obtain ⟨_, ok, hok, hall⟩ := mem_ready.1 hr'
    have h2 := lex_from n (k + 1) (listed.setIfInBounds k true) (by omega) (by simpa using hsz) (fun j => by
      rw [getD_setIf hsz (by omega), hl j]
      by_cases e : j = k
      · simp [e]
      · rw [if_neg e]; congr 1; simp; omega) (fun j hj => by
      rw [getD_setIf hsz (by omega), hl' j hj]
      by_cases e : j = k
      · simp [e]
      · rw [if_neg e]; congr 1; simp; omega) hB'
    refine ⟨fun j o hj ho e he hb => ?_, fun i j oi oj hi hij hoi hoj hno => ?_⟩
    · by_cases e2 : j = k
      · subst e2
        rw [hok] at ho
        cases ho
        have := hall e he hb
        rw [hl] at this
        simpa using this
      · exact h2.1 j o (by omega) ho e he hb
    · by_cases e2 : i = k
      · subst e2
        have hjl := (Array.getElem?_eq_some_iff.1 hoj).1
        exact Region.free_spec hoi hf j oj hoj (by omega) (by rw [hl' j hjl]; simp; omega) hno
      · exact h2.2 i j oi oj (by omega) hij hoi hoj hno
theorem lex_of (h : Region.lexB .any ops = true) : (∀ (j : Nat) (o : Oper), ops[j]? = some o → ∀ e ∈ o.after, Region.binds .any e = true → e.on < j) ∧ (∀ (i j : Nat) (oi oj : Oper), i < j → ops[i]? = some oi → ops[j]? = some oj → (∀ e ∈ oj.after, Region.binds .any e = true → e.on ≠ i) → oi.apart ops oj = true) := by
  have := lex_from ops ops.size 0 (Array.replicate ops.size false) (by simp) (by simp) (fun j => by simp [Array.getD]) (fun j hj => by simp [Array.getD, hj]) (by simp only [Region.lexB, Bool.and_eq_true] at h; exact h.2)
  exact ⟨fun j o => this.1 j o (Nat.zero_le _), fun i j oi oj => this.2 i j oi oj (Nat.zero_le _)⟩
def Wf (k : Nat) : Bool := match ops[k]? with | some o => isW Γ o | none => false
theorem wOk_spec (h : wOk Γ ops (ancs ops.toList) = true) : Region.lexB .any ops = true ∧ (∀ (k : Nat) (o : Oper), ops[k]? = some o → o.guard = none) ∧
    ∀ (i j : Nat) (oi oj : Oper), ops[i]? = some oi → ops[j]? = some oj → isW Γ oj = true → i ≠ j → ordT (ancs ops.toList) i j = true ∨ ordT (ancs ops.toList) j i = true ∨ (isW Γ oi = false ∧ (calmO Γ oi.op = 0 ∨ isL oi = true)) := by
  unfold wOk at h
  simp only [Bool.and_eq_true, List.all_eq_true, List.mem_range, lget_eq] at h
  obtain ⟨⟨h1, h2⟩, h3⟩ := h
  refine ⟨h1, fun k o ho => ?_, fun i j oi oj hi hj hW hne => ?_⟩
  · have := h2 o (by rw [Array.mem_toList_iff]; exact Array.mem_of_getElem? ho)
    simpa using this
  · have h4 := h3 j (Array.getElem?_eq_some_iff.1 hj).1
    rw [Array.getElem?_toList, hj] at h4
    simp only [hW, Bool.not_true, Bool.false_or, List.all_eq_true, List.mem_range] at h4
    have h5 := h4 i (Array.getElem?_eq_some_iff.1 hi).1
    rw [Array.getElem?_toList, hi] at h5
    simp only [wPair, Bool.or_eq_true, Bool.and_eq_true, beq_iff_eq, Bool.not_eq_true'] at h5
    rcases h5 with ((h5 | h5) | h5) | ⟨h5, h6⟩
    · exact absurd h5 hne
    · exact .inl h5
    · exact .inr (.inl h5)
    · exact .inr (.inr ⟨h5, h6⟩)
theorem ord_lt (hl : ∀ (j : Nat) (o : Oper), ops[j]? = some o → ∀ e ∈ o.after, Region.binds .any e = true → e.on < j) : ∀ (j k : Nat) (o : Oper), ops[j]? = some o → ordT (ancs ops.toList) k j = true → k < j := by
  intro j
  induction j using Nat.strongRecOn with
  | _ j ih =>
    intro k o ho h
    obtain ⟨e, h1, h2, h3⟩ := ord_dir ops ho h
    have hlt := hl j o ho e h1 h2
    rcases h3 with rfl | ⟨h3, h4⟩
    · exact hlt
    · have hs : e.on < ops.size := by have := (Array.getElem?_eq_some_iff.1 ho).1; omega
      have := ih e.on h3 k _ (Array.getElem?_eq_getElem hs) h4
      omega
theorem nonW {o : Oper} (h : isW Γ o = false) : calmO Γ o.op = 0 ∨ calmO Γ o.op = 1 := by
  unfold isW at h
  have : ¬ 2 ≤ calmO Γ o.op := fun h2 => by rw [Nat.ble_eq_true_of_le h2] at h; cases h
  omega
theorem nonW_heap {o : Oper} (h : isW Γ o = false) {ts : List AV} {h1 h2 : Hp} {u : AV} (hv : valA P Γ ops o ⟨ts, h1⟩ = some (u, h2)) : h2 = h1 := by
  rcases nonW Γ h with hc | hc
  · exact (valA_free P Γ ops hc hv).1
  · exact valA_reads P Γ ops hc hv
theorem hp_no {D W : Nat → Bool} {q : Nat} : ∀ n, q ≤ n → (∀ k, q ≤ k → k < n → D k = true → W k = true → False) → hp D W n = hp D W q
  | 0, h, _ => by
    have : q = 0 := by omega
    rw [this]
  | n + 1, h, hn => by
    by_cases e : q = n + 1
    · rw [e]
    · rw [hp, if_neg (fun hh => hn n (by omega) (by omega) hh.1 hh.2), hp_no n (by omega) fun k h1 h2 => hn k h1 (by omega)]
theorem hp_congr {D D' W : Nat → Bool} : ∀ n, (∀ k, k < n → ((D k = true ∧ W k = true) ↔ (D' k = true ∧ W k = true))) → hp D W n = hp D' W n
  | 0, _ => rfl
  | n + 1, h => by
    have ih := hp_congr n fun k hk => h k (by omega)
    unfold hp
    by_cases e : D n = true ∧ W n = true
    · rw [if_pos e, if_pos ((h n (by omega)).1 e)]
    · rw [if_neg e, if_neg (fun h2 => e ((h n (by omega)).2 h2)), ih]
variable {P Γ ops}
section
variable {m : Nat} {T : Nat → List AV} {H : Nat → Hp} (hok : wOk Γ ops (ancs ops.toList) = true) (hm : m ≤ ops.size) (C : Can P Γ ops (ancs ops.toList) [] [] 0 m T H v)
include hm C
theorem Can.at {k : Nat} (hk : k < m) : ∃ o, ops[k]? = some o ∧ valA P Γ ops o ⟨T k, H k⟩ = some (v k, H (k + 1)) ∧ T (k + 1) = putA o.dst (v k) (T k) := by
  have h : ops[k]? = some ops[k] := Array.getElem?_eq_getElem (by omega)
  exact ⟨_, h, C.step k _ (Nat.zero_le _) hk h⟩
theorem Can.td : ∀ k, k ≤ m → T k = TD ops (T 0) v (fun _ => true) k
  | 0, _ => rfl
  | k + 1, hk => by
    obtain ⟨o, ho, _, h2⟩ := Can.at hm C (k := k) (by omega)
    rw [TD, if_pos rfl, ← Can.td k (by omega), h2]
    simp [dstA, ho]
theorem Can.still {D : Nat → Bool} : ∀ q, q ≤ m → (∀ k, k < q → Wf Γ ops k = true → D k = true) → H (hp D (Wf Γ ops) q) = H q
  | 0, _, _ => rfl
  | q + 1, hq, h => by
    obtain ⟨o, ho, h1, _⟩ := Can.at hm C (k := q) (by omega)
    unfold hp
    by_cases e : Wf Γ ops q = true
    · rw [if_pos ⟨h q (by omega) e, e⟩]
    · rw [if_neg (fun h2 => e h2.2), Can.still q (by omega) fun k hk => h k (by omega)]
      refine (nonW_heap P Γ ops (o := o) ?_ h1).symm
      simpa [Wf, ho] using e
include hok
theorem Can.state {D : Nat → Bool} (hc : ∀ (j : Nat) (oj : Oper), ops[j]? = some oj → D j = true → ∀ e ∈ oj.after, Region.binds .any e = true → D e.on = true) (hlt : ∀ k, D k = true → k < m) {i : Nat} {o : Oper} (hi : i < m) (ho : ops[i]? = some o) (hDi : D i = false)
    (hr : ∀ e ∈ o.after, Region.binds .any e = true → D e.on = true) :
    valA P Γ ops o ⟨TD ops (T 0) v D ops.size, H (hp D (Wf Γ ops) ops.size)⟩ = some (v i, H (hp (fun k => D k || decide (k = i)) (Wf Γ ops) ops.size)) := by
  obtain ⟨hlex, hg, hpair⟩ := wOk_spec Γ ops hok
  obtain ⟨l1, l2⟩ := lex_of ops hlex
  have ord_in : ∀ k, ordT (ancs ops.toList) k i = true → D k = true := fun k h => ord_dn ops hc i k o ho h hr
  have ord_out : ∀ k ok, ops[k]? = some ok → ordT (ancs ops.toList) i k = true → D k = false := by
    intro k ok hk h
    cases hD : D k with
    | false => rfl
    | true => rw [ord_dn ops hc k i ok hk h (hc k ok hk hD)] at hDi; cases hDi
  have hgo := hg i o ho
  have htm : valA P Γ ops o ⟨TD ops (T 0) v D ops.size, H (hp D (Wf Γ ops) ops.size)⟩ = valA P Γ ops o ⟨T i, H (hp D (Wf Γ ops) ops.size)⟩ := by
    refine valA_look P Γ ops hgo fun t ht => ?_
    rw [Can.td hm C i (by omega), ← TD_cut ops ops.size (by omega)]
    refine TD_get ops ops.size fun k hk hne d hd => ?_
    have hk' := Array.getElem?_eq_getElem hk
    have hd' : (ops[k]).dst = some d := by simpa [dstA, hk'] using hd
    rintro rfl
    by_cases hki : k < i
    · have hDk : D k = false := by
        cases h : D k with
        | false => rfl
        | true => rw [h] at hne; simp [hki] at hne
      have hap := l2 k i _ o hki hk' ho fun e he hb heq => by
        have := hr e he hb
        rw [heq, hDk] at this
        cases this
      exact (Oper.apart_spec hap).1 _ hd' ht
    · have hDk : D k = true := by
        cases h : D k with
        | true => rfl
        | false => rw [h] at hne; simp [hki] at hne
      have hne2 : k ≠ i := by rintro rfl; rw [hDk] at hDi; cases hDi
      have hap := l2 i k o _ (by omega) ho hk' fun e he hb heq => by
        have := hc k _ hk' hDk e he hb
        rw [heq, hDi] at this
        cases this
      exact (Oper.apart_spec hap).2.2 _ hd' ht
  rw [htm]
  obtain ⟨o', ho', hcan, _⟩ := Can.at hm C hi
  rw [ho] at ho'
  cases ho'
  have wf : ∀ k, Wf Γ ops k = true → ∃ ok, ops[k]? = some ok ∧ isW Γ ok = true := by
    intro k hk
    unfold Wf at hk
    split at hk
    · exact ⟨_, ‹_›, hk⟩
    · cases hk
  -- all that writes ahead of i is there, and none behind it
  have chain : (∀ k, k < i → Wf Γ ops k = true → D k = true) → (∀ k, i < k → Wf Γ ops k = true → D k = false) → H (hp D (Wf Γ ops) ops.size) = H i ∧ (Wf Γ ops i = true → hp (fun k => D k || decide (k = i)) (Wf Γ ops) ops.size = i + 1) := by
    intro h1 h2
    refine ⟨?_, fun hW => ?_⟩
    · rw [hp_no (q := i) ops.size (by omega) fun k hk1 hk2 hk3 hk4 => ?_, Can.still hm C i (by omega) h1]
      by_cases e : k = i
      · subst e; rw [hk3] at hDi; cases hDi
      · rw [h2 k (by omega) hk4] at hk3; cases hk3
    · rw [hp_no (q := i + 1) ops.size (by omega) fun k hk1 hk2 hk3 hk4 => ?_, hp, if_pos ⟨by simp, hW⟩]
      have : D k = true := by
        have h3 : ¬ k = i := by omega
        simpa [h3] using hk3
      rw [h2 k (by omega) hk4] at this
      cases this
  have byord : (∀ k ok, k ≠ i → ops[k]? = some ok → isW Γ ok = true → ordT (ancs ops.toList) k i = true ∨ ordT (ancs ops.toList) i k = true) → (∀ k, k < i → Wf Γ ops k = true → D k = true) ∧ (∀ k, i < k → Wf Γ ops k = true → D k = false) := by
    intro h
    refine ⟨fun k hk hW => ?_, fun k hk hW => ?_⟩
    · obtain ⟨ok, hok, hWk⟩ := wf k hW
      rcases h k ok (by omega) hok hWk with h1 | h1
      · exact ord_in k h1
      · have := ord_lt ops l1 k i ok hok h1; omega
    · obtain ⟨ok, hok, hWk⟩ := wf k hW
      rcases h k ok (by omega) hok hWk with h1 | h1
      · have := ord_lt ops l1 i k o ho h1; omega
      · exact ord_out k ok hok h1
  cases hW : isW Γ o with
  | true =>
    have hWi : Wf Γ ops i = true := by simp [Wf, ho, hW]
    obtain ⟨h1, h2⟩ := byord fun k ok hne hk hWk => by
      rcases hpair k i ok o hk ho hW hne with h | h | ⟨h, _⟩
      · exact .inl h
      · exact .inr h
      · rw [hWk] at h; cases h
    obtain ⟨h3, h4⟩ := chain h1 h2
    rw [h3, h4 hWi]
    exact hcan
  | false =>
    have hWi : Wf Γ ops i = false := by simp [Wf, ho, hW]
    have hsame : hp (fun k => D k || decide (k = i)) (Wf Γ ops) ops.size = hp D (Wf Γ ops) ops.size := by
      refine hp_congr ops.size fun k hk => ?_
      by_cases e : k = i
      · subst e; simp [hWi]
      · simp [e]
    rw [hsame]
    have hH := nonW_heap P Γ ops hW hcan
    have hcan' : valA P Γ ops o ⟨T i, H i⟩ = some (v i, H i) := by rw [hcan, hH]
    rcases nonW Γ hW with hcalm | hcalm
    · exact (valA_free P Γ ops hcalm hcan').2 _
    · cases hL : isL o with
      | false =>
        obtain ⟨h1, h2⟩ := byord fun k ok hne hk hWk => by
          rcases hpair i k o ok ho hk hWk (Ne.symm hne) with h | h | ⟨_, h | h⟩
          · exact .inr h
          · exact .inl h
          · rw [hcalm] at h; cases h
          · rw [hL] at h; cases h
        rw [(chain h1 h2).1]
        exact hcan'
      | true =>
        -- the first that writes ahead of i and is not there
        have part : ∀ q, q ≤ i → (H (hp D (Wf Γ ops) q) = H q ∧ ∀ k, k < q → Wf Γ ops k = true → D k = true) ∨ ∃ k', k' < q ∧ Wf Γ ops k' = true ∧ D k' = false ∧ H (hp D (Wf Γ ops) q) = H k' := by
          intro q
          induction q with
          | zero => exact fun _ => .inl ⟨rfl, fun k hk => by omega⟩
          | succ q ih =>
            intro hq
            rcases ih (by omega) with ⟨h1, h2⟩ | ⟨k', h1, h2, h3, h4⟩
            · cases hWq : Wf Γ ops q with
              | false =>
                refine .inl ⟨?_, fun k hk hWk => ?_⟩
                · obtain ⟨oq, hoq, hvq, _⟩ := Can.at hm C (k := q) (by omega)
                  rw [hp, if_neg (by simp [hWq]), h1]
                  exact (nonW_heap P Γ ops (o := oq) (by simpa [Wf, hoq] using hWq) hvq).symm
                · by_cases e : k = q
                  · subst e; rw [hWq] at hWk; cases hWk
                  · exact h2 k (by omega) hWk
              | true =>
                cases hDq : D q with
                | true =>
                  refine .inl ⟨by rw [hp, if_pos ⟨hDq, hWq⟩], fun k hk hWk => ?_⟩
                  by_cases e : k = q
                  · subst e; exact hDq
                  · exact h2 k (by omega) hWk
                | false => exact .inr ⟨q, by omega, hWq, hDq, by rw [hp, if_neg (by simp [hDq]), h1]⟩
            · refine .inr ⟨k', by omega, h2, h3, ?_⟩
              rw [hp, if_neg (fun hh => ?_), h4]
              obtain ⟨ok, hok1, hWk⟩ := wf k' h2
              obtain ⟨oq, hoq, hWq⟩ := wf q hh.2
              rcases hpair k' q ok oq hok1 hoq hWq (by omega) with h | h | ⟨h, _⟩
              · have := ord_dn ops hc q k' oq hoq h (hc q oq hoq hh.1)
                rw [h3] at this; cases this
              · have := ord_lt ops l1 k' q ok hok1 h; omega
              · rw [hWk] at h; cases h
        have base : valA P Γ ops o ⟨T i, H (hp D (Wf Γ ops) i)⟩ = some (v i, H (hp D (Wf Γ ops) i)) := by
          rcases part i (Nat.le_refl _) with ⟨h1, _⟩ | ⟨k', h1, h2, h3, h4⟩
          · rw [h1]; exact hcan'
          · rw [h4]
            obtain ⟨ok, hok1, hWk⟩ := wf k' h2
            refine C.bck i o k' ok (Nat.zero_le _) h1 hi ho hL hW hok1 hWk ?_
            cases h : ordT (ancs ops.toList) k' i with
            | false => rfl
            | true => rw [ord_in k' h] at h3; cases h3
        have up : ∀ q, i ≤ q → q ≤ ops.size → valA P Γ ops o ⟨T i, H (hp D (Wf Γ ops) q)⟩ = some (v i, H (hp D (Wf Γ ops) q)) := by
          intro q
          induction q with
          | zero =>
            intro h1 _
            have : i = 0 := by omega
            subst this
            exact base
          | succ q ih =>
            intro h1 h2
            by_cases e : i = q + 1
            · rw [← e]; exact base
            · rw [hp]
              split
              · rename_i hh
                obtain ⟨oq, hoq, hWq⟩ := wf q hh.2
                have hqi : q ≠ i := by rintro rfl; rw [hh.1] at hDi; cases hDi
                refine C.fwd i o q oq (Nat.zero_le _) (by omega) (hlt q hh.1) ho hL hW hoq hWq ?_
                cases h : ordT (ancs ops.toList) i q with
                | false => rfl
                | true => have := ord_out q oq hoq h; rw [hh.1] at this; cases this
              · exact ih (by omega) (by omega)
        exact up ops.size (by omega) (Nat.le_refl _)
omit hok hm C in
theorem cnt_add {D : Nat → Bool} {i : Nat} (hi : D i = false) : ∀ n, i < n → (List.range n).countP (fun k => !(D k || decide (k = i))) + 1 = (List.range n).countP (fun k => !D k)
  | 0, h => by omega
  | n + 1, h => by
    rw [List.range_succ, List.countP_append, List.countP_append]
    by_cases e : i = n
    · subst e
      have : (List.range i).countP (fun k => !(D k || decide (k = i))) = (List.range i).countP (fun k => !D k) := by
        refine List.countP_congr fun k hk => ?_
        have := List.mem_range.1 hk
        simp [show ¬ k = i by omega]
      rw [this]
      simp [hi]
    · have ih := cnt_add hi n (by omega)
      have : (D n || decide (n = i)) = D n := by simp [show ¬ n = i by omega]
      simp only [List.countP_cons, List.countP_nil, this]
      omega
omit hok hm C in
theorem cnt_zero {D : Nat → Bool} {n : Nat} (h : (List.range n).countP (fun k => !D k) = 0) : ∀ k, k < n → D k = true := by
  intro k hk
  rw [List.countP_eq_zero] at h
  have := h k (List.mem_range.2 hk)
  simpa using this
omit hok hm C in
theorem ready_some (hlex : ∀ (j : Nat) (o : Oper), ops[j]? = some o → ∀ e ∈ o.after, Region.binds .any e = true → e.on < j) {listed : Array Bool} (hs : listed.size = ops.size) : ∀ (k : Nat), k < ops.size → listed.getD k false = false → Region.ready .any ops listed ≠ [] := by
  intro k
  induction k using Nat.strongRecOn with
  | _ k ih =>
    intro hk hd
    by_cases h : ∀ j, j < k → listed.getD j false = true
    · have hk' := Array.getElem?_eq_getElem hk
      have : k ∈ Region.ready .any ops listed := by
        refine mem_ready.2 ⟨?_, _, hk', fun e he hb => h _ (hlex k _ hk' e he hb)⟩
        rw [getD_size hs hk] at hd ⊢
        exact hd
      intro h0
      rw [h0] at this
      cases this
    · have : ∃ j, j < k ∧ listed.getD j false = false := by
        apply Classical.byContradiction
        intro hn
        exact h fun j hj => by
          cases hh : listed.getD j false with
          | true => rfl
          | false => exact absurd ⟨j, hj, hh⟩ hn
      obtain ⟨j, hj, hjd⟩ := this
      exact ih j hj (by omega) hjd
omit hok hm C in
theorem closed_D {listed : Array Bool} (hs : listed.size = ops.size) (hcl : Closed ops listed) : ∀ (j : Nat) (oj : Oper), ops[j]? = some oj → listed.getD j false = true → ∀ e ∈ oj.after, Region.binds .any e = true → listed.getD e.on false = true := by
  intro j oj hj hd
  refine hcl j oj hj ?_
  have hlt := (Array.getElem?_eq_some_iff.1 hj).1
  rw [getD_size hs hlt] at hd ⊢
  exact hd
theorem Can.next {listed : Array Bool} (hs : listed.size = ops.size) (hcl : Closed ops listed) (hlt : ∀ k, listed.getD k false = true → k < m) {i : Nat} (hi : i ∈ Region.ready .any ops listed) (him : i < m) :
    stepA P Γ ops i ⟨TD ops (T 0) v (fun k => listed.getD k false) ops.size, H (hp (fun k => listed.getD k false) (Wf Γ ops) ops.size)⟩ =
      some ⟨TD ops (T 0) v (fun k => (listed.setIfInBounds i true).getD k false) ops.size, H (hp (fun k => (listed.setIfInBounds i true).getD k false) (Wf Γ ops) ops.size)⟩ := by
  obtain ⟨hlex, hg, hpair⟩ := wOk_spec Γ ops hok
  obtain ⟨l1, l2⟩ := lex_of ops hlex
  obtain ⟨hun, o, ho, hall⟩ := mem_ready.1 hi
  have hil := (Array.getElem?_eq_some_iff.1 ho).1
  have hDi : listed.getD i false = false := by
    rw [getD_size hs hil] at hun ⊢
    exact hun
  have hD' : (fun k => (listed.setIfInBounds i true).getD k false) = fun k => listed.getD k false || decide (k = i) := by
    funext k
    rw [getD_setIf hs hil]
    by_cases e : k = i
    · simp [e]
    · simp [e]
  rw [hD', stepA_val P Γ ops ho, Can.state hok hm C (closed_D hs hcl) hlt him ho hDi hall, Option.map_some]
  have hadd := TD_add ops (T0 := T 0) (v := v) (D := fun k => listed.getD k false) hDi ops.size hil fun k h1 h2 hk d hd hdi => by
    have hk' := Array.getElem?_eq_getElem h2
    have hap := l2 i k o _ h1 ho hk' fun e he hb heq => by
      have := closed_D hs hcl k _ hk' hk e he hb
      rw [heq, hDi] at this
      cases this
    exact (Oper.apart_spec hap).2.1 d (by simpa [dstA, ho] using hdi) (by simpa [dstA, hk'] using hd)
  rw [hadd]
  simp [dstA, ho]
theorem Can.any (hmn : m = ops.size) : ∀ (fuel : Nat) (listed : Array Bool), listed.size = ops.size → Closed ops listed → (List.range ops.size).countP (fun k => !listed.getD k false) = fuel →
    anyA P Γ ops ⟨T m, H m⟩ fuel listed ⟨TD ops (T 0) v (fun k => listed.getD k false) ops.size, H (hp (fun k => listed.getD k false) (Wf Γ ops) ops.size)⟩
  | 0, listed, hs, hcl, hc => by
    have hall := cnt_zero hc
    refine ⟨List.eq_nil_iff_forall_not_mem.2 fun i hi => ?_, ?_⟩
    · obtain ⟨hun, o, ho, _⟩ := mem_ready.1 hi
      have hil := (Array.getElem?_eq_some_iff.1 ho).1
      have := hall i hil
      rw [getD_size hs hil] at hun this
      rw [hun] at this
      cases this
    · rw [Can.still hm C ops.size (by omega) fun k hk _ => hall k hk, TD_low ops (D' := fun _ => true) ops.size fun k hk => hall k hk, ← Can.td hm C ops.size (by omega), hmn]
  | fuel + 1, listed, hs, hcl, hc => by
    obtain ⟨hlex, _, _⟩ := wOk_spec Γ ops hok
    obtain ⟨l1, _⟩ := lex_of ops hlex
    have hne : ∃ k, k < ops.size ∧ listed.getD k false = false := by
      have : 0 < (List.range ops.size).countP (fun k => !listed.getD k false) := by omega
      rw [List.countP_pos_iff] at this
      obtain ⟨k, hk, h⟩ := this
      exact ⟨k, List.mem_range.1 hk, by simpa using h⟩
    obtain ⟨k, hk, hkd⟩ := hne
    refine ⟨fun h => absurd h (ready_some l1 hs k hk hkd), fun i hi => ?_⟩
    obtain ⟨hun, o, ho, _⟩ := mem_ready.1 hi
    have hil := (Array.getElem?_eq_some_iff.1 ho).1
    have hDi : listed.getD i false = false := by
      rw [getD_size hs hil] at hun ⊢
      exact hun
    refine ⟨_, Can.next hok hm C hs hcl (fun q hq => ?_) hi (by omega), Can.any hmn fuel _ (by simpa using hs) (hcl.step ops hs hi) ?_⟩
    · have : q < listed.size := by
        apply Classical.byContradiction
        intro h
        simp [Array.getD, h] at hq
      omega
    · have := cnt_add (D := fun k => listed.getD k false) hDi ops.size hil
      have e : (fun k => !(listed.setIfInBounds i true).getD k false) = fun k => !(listed.getD k false || decide (k = i)) := by
        funext q
        rw [getD_setIf hs hil]
        by_cases e : q = i
        · simp [e]
        · simp [e]
      rw [e]
      omega
theorem Can.anyP (hmn : m + 1 = ops.size) (hd : depOk ops.toList = true) : ∀ (fuel : Nat) (listed : Array Bool), listed.size = ops.size → Closed ops listed → listed.getD m false = false → (List.range ops.size).countP (fun k => !listed.getD k false) = fuel →
    anyB P Γ ops ⟨T m, H m⟩ fuel listed ⟨TD ops (T 0) v (fun k => listed.getD k false) ops.size, H (hp (fun k => listed.getD k false) (Wf Γ ops) ops.size)⟩
  | 0, listed, hs, hcl, hz, hc => by
    have := cnt_zero hc m (by omega)
    rw [hz] at this
    cases this
  | fuel + 1, listed, hs, hcl, hz, hc => by
    obtain ⟨hlex, _, _⟩ := wOk_spec Γ ops hok
    obtain ⟨l1, _⟩ := lex_of ops hlex
    refine ⟨ready_some l1 hs m (by omega) hz, fun i hi => ?_⟩
    obtain ⟨hun, o, ho, _⟩ := mem_ready.1 hi
    have hil := (Array.getElem?_eq_some_iff.1 ho).1
    have hDi : listed.getD i false = false := by
      rw [getD_size hs hil] at hun ⊢
      exact hun
    by_cases e : i = ops.size - 1
    · refine .inl ⟨e, ?_⟩
      have hall : ∀ k, k < m → listed.getD k false = true := by
        intro k hk
        have := last_ready ops hs hcl hd (e ▸ hi) (ops.size - 1 - k) k (by omega) (by omega)
        rw [getD_size hs (by omega)] at this ⊢
        exact this
      have hD : ∀ k, k < ops.size → listed.getD k false = decide (k < m) := by
        intro k hk
        by_cases h : k < m
        · rw [hall k h]; simp [h]
        · have : k = m := by omega
          subst this
          rw [hz]; simp
      rw [hp_no (q := m) ops.size (by omega) fun k h1 h2 h3 _ => ?_, Can.still hm C m (Nat.le_refl _) fun k hk _ => hall k hk, TD_low ops ops.size hD, TD_cut ops ops.size (by omega), ← Can.td hm C m (Nat.le_refl _)]
      have : k = m := by omega
      subst this
      rw [hz] at h3
      cases h3
    · refine .inr ⟨e, _, Can.next hok hm C hs hcl (fun q hq => ?_) hi (by omega), Can.anyP hmn hd fuel _ (by simpa using hs) (hcl.step ops hs hi) ?_ ?_⟩
      · have h1 : q < listed.size := by
          apply Classical.byContradiction
          intro h
          simp [Array.getD, h] at hq
        have h2 : q ≠ m := by rintro rfl; rw [hz] at hq; cases hq
        omega
      · rw [getD_setIf hs hil, if_neg (by omega)]
        exact hz
      · have := cnt_add (D := fun k => listed.getD k false) hDi ops.size hil
        have e : (fun k => !(listed.setIfInBounds i true).getD k false) = fun k => !(listed.getD k false || decide (k = i)) := by
          funext q
          rw [getD_setIf hs hil]
          by_cases e : q = i
          · simp [e]
          · simp [e]
        rw [e]
        omega
end
theorem regW_any (good : Good P Γ) {R : Type} {σ : St} {K : Cont R} {r : R} (hk : regW P Γ ops σ K = some r) :
    (∃ σf, K .normal σf = some r ∧ anyA P Γ ops σf ops.size (Array.replicate ops.size false) σ) ∨ (∃ σf v h', K (.pan v) ⟨σf.tmps, h'⟩ = some r ∧ (PanAt P ops (ops.size - 1) σf v h' ∧ depOk ops.toList = true) ∧ anyB P Γ ops σf ops.size (Array.replicate ops.size false) σ) := by
  unfold regW at hk
  rcases bsq_inv hk with ⟨hok, hk⟩ | ⟨_, hk⟩
  case inr => cases hk
  obtain ⟨_, hg, _⟩ := wOk_spec Γ ops hok
  obtain ⟨m, T, H, v, e1, e2, C, _, hfin⟩ := aopsW_run P Γ ops good (ancs ops.toList) hg ops.toList 0 [] [] σ rfl hk
  have hcl : Closed ops (Array.replicate ops.size false) := by
    intro j oj hoj hj
    have := (Array.getElem?_eq_some_iff.1 hoj).1
    simp [Array.getD, this] at hj
  have hf : ∀ k, (Array.replicate ops.size false).getD k false = false := fun k => by simp [Array.getD]
  have hcnt : (List.range ops.size).countP (fun k => !(Array.replicate ops.size false).getD k false) = ops.size := by
    simp only [hf]
    simp
  have hst : (⟨TD ops (T 0) v (fun k => (Array.replicate ops.size false).getD k false) ops.size, H (hp (fun k => (Array.replicate ops.size false).getD k false) (Wf Γ ops) ops.size)⟩ : St) = σ := by
    simp only [hf]
    have h1 : ∀ n, TD ops (T 0) v (fun _ => false) n = T 0 := by
      intro n
      induction n with
      | zero => rfl
      | succ n ih => rw [TD, if_neg (by decide), ih]
    have h2 : hp (fun _ => false) (Wf Γ ops) ops.size = 0 := by
      rw [hp_no (q := 0) ops.size (Nat.zero_le _) fun k _ _ h _ => by cases h]
      rfl
    rw [h1, h2, e1, e2]
  have hlen : ops.toList.length = ops.size := by simp
  rcases hfin with ⟨h1, h2⟩ | ⟨h1, v', h', ⟨h2, h3⟩, h4⟩
  · refine .inl ⟨_, h2, ?_⟩
    have := Can.any hok (by omega) C (by omega) ops.size _ (by simp) hcl hcnt
    rw [hst] at this
    exact this
  · have hm1 : m = ops.size - 1 := by omega
    refine .inr ⟨⟨T m, H m⟩, v', h', h4, ⟨by rw [← hm1]; exact h2, h3⟩, ?_⟩
    have := Can.anyP hok (by omega) C (by omega) h3 ops.size _ (by simp) hcl (hf m) hcnt
    rw [hst] at this
    exact this
end
end Go.Proofs.Ytknphnmhjmejaaa
