/-  Functions that first defer a call, and deferred functions that recover, on the abstract machine. No conditions. -/
import Derived.Test.YtknphnmhjmejaaaAmSj
import Derived.Recover
namespace Go.Proofs.Ytknphnmhjmejaaa
set_option linter.unusedVariables false
noncomputable section
/-- What a deferred call makes of the heap: ahead of a return, or of a panic that it ends. -/
abbrev Dfd := Option AV → List AV → Hp → Option Hp
def GoodD (P : Program) (f : FuncId) (D : Dfd) : Prop :=
  Ent P f ∧ ∀ pv args h h', D pv args h = some h' → ∀ J M w (cargs : Array Value), HR J M h w → cargs.size = args.length → Vs J M args (fun i => cargs[i]?) →
    match pv with
    | none => CallsD P f cargs .returning w fun e u' w' => (∃ x, e = .returned x) ∧ u' = .returning ∧ ∃ J' M', Stp J M h w J' M' h' w'
    | some v => ∀ u, V J M v u → CallsD P f cargs (.panicking [{ v := u, recovered := false }]) w fun e u' w' => (∃ x, e = .returned x) ∧ settle u' = .returning ∧ ∃ J' M', Stp J M h w J' M' h' w'
section
variable {R : Type} (P : Program) (Γ : FuncId → Option Callee) (ann : Ann) (trims : List Nat) (k : Nat)
def fdk (D : Dfd) (pv : Option AV) (dargs : List AV) (h : Hp) (K : Hp → Option R) : Option R :=
  match D pv dargs h with
  | some h => K h
  | none => none
def finD (fn : Func) (D : Dfd) (dargs : List AV) (e : AE) (σ : St) : Option (ARes × Hp) :=
  match e with
  | .normal | .ret => fdk D none dargs σ.heap fun h => finR (resOf P fn σ.tmps h) h
  | .pan v => fdk D (some v) dargs σ.heap fun h => finR (resOf P fn σ.tmps h) h
  | .exit _ => none
theorem nrfl {α : Sort _} {a b : α} (h : a = b) : a = b := h
def dfrA (Δ : FuncId → Option Dfd) (o : Option Oper) (σ : St) (K : Dfd → List AV → Option R) : Option R :=
  match o with
  | none => none
  | some o => match o.op, o.guard, o.dst with
    | .defer c, none, none => match c.callee with
      | .value fo => match aeval σ.tmps fo with
        | .func f fst cap => match Δ f with
          | some D => K D (fst ++ c.args.toList.map (aeval σ.tmps) ++ cap)
          | none => none
        | _ => none
      | _ => none
    | _, _, _ => none
def onlyN (K : St → Option R) (e : AE) (σ : St) : Option R :=
  match e with
  | .normal => K σ
  | _ => none
def fnD (Δ : FuncId → Option Dfd) (fn : Func) (args : List AV) (h : Hp) : Option (ARes × Hp) :=
  bsq (Nat.ble args.length fn.ntmps && noR (bodyOf fn)) (match bodyOf fn with
    | .seq a (.seq (.region _ ops false) b) =>
      acode P Γ ann trims k a 2 ⟨args ++ List.replicate (fn.ntmps - args.length) undefA, h⟩ (onlyN fun σ => aops P Γ ops false (List.range (ops.size - 1)) σ (onlyN fun σ =>
        dfrA Δ ops[ops.size - 1]? σ fun D dargs => acode P Γ ann trims k b 7 σ (finD P fn D dargs)))
    | _ => none) none
def finE (e : AE) (σ : St) : Option Hp :=
  match e with
  | .normal | .ret => some σ.heap
  | _ => none
def isRec (o : Oper) : Bool :=
  match o.op, o.guard with
  | .call c, none => match c.callee, c.args.toList with
    | .builtin .recover, [] => true
    | _, _ => false
  | _, _ => false
def recV (pv : Option AV) : AV :=
  match pv with
  | none => .rv .nili
  | some v => v
def fnR (fn : Func) (pv : Option AV) (args : List AV) (h : Hp) : Option Hp :=
  bsq (Nat.ble args.length fn.ntmps && fn.results.isEmpty && noR (bodyOf fn)) (match bodyOf fn with
    | .seq (.region _ ops false) b => match ops.toList with
      | [] => none
      | o :: rest => bsq (isRec o) (aopsL P Γ ops.toList false rest ⟨putA o.dst (recV pv) (args ++ List.replicate (fn.ntmps - args.length) undefA), h⟩ (onlyN fun σ => acode P Γ ann trims k b 3 σ finE)) none
    | _ => none) none
end
section
variable {R : Type} {P : Program} {Γ : FuncId → Option Callee} {ann : Ann} {trims : List Nat} {k : Nat}
theorem wpOps_app {ops : Array Oper} {Q : Exit → Act → World → Prop} : ∀ (l1 l2 : List Nat) (a : Act) (w : World),
    wpOps P ops (fun e a w => match e with | .normal => wpOps P ops Q l2 a w | e => Q e a w) l1 a w → wpOps P ops Q (l1 ++ l2) a w
  | [], l2, a, w, h => h
  | i :: l1, l2, a, w, h => by
    rw [List.cons_append, wpOps_cons]
    rw [wpOps_cons] at h
    unfold wpOp at h ⊢
    split
    · rename_i ho
      rw [ho] at h
      exact wpOps_app l1 l2 _ _ h
    · rename_i o ho
      rw [ho] at h
      simp only at h
      split
      · rename_i hw
        rw [if_pos hw] at h
        rcases h with h | ⟨h1, a0, w0, h2⟩
        · refine .inl ?_
          have h := Oper.wp_mono (fun a w => wpOps_app l1 l2 a w) h
          unfold Oper.wp at h ⊢
          generalize (execOp a.eval o).run P w = r at h ⊢
          cases r with
          | ok n w' =>
            cases n with
            | enter f args =>
              simp only [Oper.upon] at h ⊢
              exact h.mono fun e w'' he => by
                cases e with
                | returned v => exact he
                | panicked chain => exact he
                | outgrown => obtain ⟨a0, w0, h2⟩ := he; exact ⟨a0, w0, h2⟩
            | _ => exact h
          | halt x w' => cases x <;> exact h
        · exact .inr ⟨h1, a0, w0, h2⟩
      · rename_i hw
        rw [if_neg hw] at h
        exact wpOps_app l1 l2 _ _ h
theorem wpOps_imp {ops : Array Oper} {Q Q' : Exit → Act → World → Prop} (hq : ∀ e a w, Q e a w → Q' e a w) : ∀ {l : List Nat} {a : Act} {w : World}, wpOps P ops Q l a w → wpOps P ops Q' l a w := by
  intro l
  induction l with
  | nil => intro a w h; exact hq _ _ _ h
  | cons i l ih =>
    intro a w h
    rw [wpOps_cons] at h ⊢
    unfold wpOp at h ⊢
    split
    · rename_i ho
      rw [ho] at h
      exact ih h
    · rename_i o ho
      rw [ho] at h
      simp only at h
      split
      · rename_i hw
        rw [if_pos hw] at h
        rcases h with h | ⟨h1, a0, w0, h2⟩
        · refine .inl ?_
          have h := Oper.wp_mono (fun a w => ih (a := a) (w := w)) h
          unfold Oper.wp at h ⊢
          generalize (execOp a.eval o).run P w = r at h ⊢
          cases r with
          | ok n w' =>
            cases n with
            | enter f args =>
              simp only [Oper.upon] at h ⊢
              exact h.mono fun e w'' he => by
                cases e with
                | returned v => exact he
                | panicked chain => exact hq _ _ _ he
                | outgrown => obtain ⟨a0, w0, h2⟩ := he; exact ⟨a0, w0, hq _ _ _ h2⟩
            | _ => exact h
          | halt x w' =>
            cases x with
            | panic v => exact hq _ _ _ h
            | _ => exact h
        · exact .inr ⟨h1, a0, w0, hq _ _ _ h2⟩
      · rename_i hw
        rw [if_neg hw] at h
        exact ih h
theorem onlyN_inv {K : St → Option R} {e : AE} {σ : St} {r : R} (h : onlyN K e σ = some r) : e = .normal ∧ K σ = some r := by
  cases e <;> simp [onlyN] at h
  exact ⟨rfl, h⟩
theorem fnD_sound (hm : P.follows .mixedOrders = true) (good : Good P Γ) {Δ : FuncId → Option Dfd} (gd : ∀ f D, Δ f = some D → GoodD P f D) {f : FuncId} {fn : Func} (hf : P.funcs[f]? = some fn) (hb : fn.body.isSome = true) {args : List AV} {h : Hp} {r : ARes} {h' : Hp}
    (hk : fnD P Γ ann trims k Δ fn args h = some (r, h')) : ACalls P f args h r h' := by
  intro J M w cargs hr hsz hv
  unfold fnD at hk
  rcases bsq_inv hk with ⟨hno, hk⟩ | ⟨_, hk⟩
  case inr => cases hk
  replace hno := (Bool.and_eq_true_iff.1 hno).2
  obtain ⟨c, hc⟩ := Option.isSome_iff_exists.1 hb
  have hbo : bodyOf fn = c := by simp [bodyOf, hc]
  rw [hbo] at hk
  split at hk
  case h_2 => cases hk
  rename_i ca id ops cb
  rw [hbo] at hno
  have hnoa : noR ca = true := noR_l hno
  have hnob : noR cb = true := noR_r (noR_r hno)
  obtain ⟨e1, σ1, hK1, hw1⟩ := acode_sound hm good _ _ _ _ _ hk
  replace hw1 := hw1.plain hnoa
  obtain ⟨he1, hN1⟩ := onlyN_inv hK1
  subst he1
  obtain ⟨e2, σ2, hK2', hw2⟩ := aops_sound good _ _ _ _ hN1
  obtain ⟨he2, hK2⟩ := onlyN_inv hK2'
  subst he2
  clear hK1 hK2' hN1
  unfold dfrA at hK2
  split at hK2
  · cases hK2
  rename_i o ho
  split at hK2
  case h_2 => cases hK2
  rename_i dc hop hgu hds
  split at hK2
  case h_2 => cases hK2
  rename_i fo hcal
  split at hK2
  case h_2 => cases hK2
  rename_i g fst cap hfo
  split at hK2
  case h_2 => cases hK2
  rename_i D hD
  obtain ⟨hent, hgd⟩ := gd g D hD
  obtain ⟨e3, σ3, hfin, hw3⟩ := acode_sound hm good _ _ _ _ _ hK2
  replace hw3 := hw3.plain hnob
  have hpos : 0 < ops.size := by
    have := (Array.getElem?_eq_some_iff.1 ho).1
    omega
  have hok : ∀ (J : Jm) (M : Mm) (h : Hp) (w : World) (D : List Deferred), HR J M h w → (⟨J, M, h, w, D, false⟩ : Bs).ok := by
    intro J M h w D hr o q e k
    obtain ⟨ob, hob, _⟩ := hr.key _ _ _ k
    exact (List.getElem?_eq_some_iff.1 hob).1
  refine calls_of_wp_defers hf hc (wp_seq (wp_mono (hw1 ⟨J, M, h, w, [], false⟩ _ w (hok _ _ _ _ _ hr) ?_) fun x a1 w1 hx => ?_))
  · refine ⟨J, M, Stp.refl hr, by simp [hsz], ?_, DMk.none⟩
    rw [hsz]
    exact Vs_app hsz hv (Vs_replicate _)
  · obtain ⟨rfl, hS1⟩ := hx
    refine wp_seq (wp_region ?_)
    have hrng : List.range ops.size = List.range (ops.size - 1) ++ [ops.size - 1] := by
      conv => lhs; rw [show ops.size = (ops.size - 1) + 1 by omega]
      rw [List.range_succ]
    rw [hrng]
    refine wpOps_app _ _ _ _ ?_
    have key : ∀ a2 w2, Sim ⟨J, M, h, w, [], false⟩ σ2 a2 w2 → wpOps P ops (Exit.then (cb.wp P (bodyPostD P fn fun e w' => ∃ J' M', Stp J M h w J' M' h' w' ∧ RelE J' M' r e)) (bodyPostD P fn fun e w' => ∃ J' M', Stp J M h w J' M' h' w' ∧ RelE J' M' r e)) [ops.size - 1] a2 w2 := by
      intro a2 w2 hS2
      obtain ⟨J2, M2, st2, hs2, hv2, hd2⟩ := hS2
      have hV := eval_rel hs2 hv2 fo
      rw [hfo] at hV
      simp only [V] at hV
      obtain ⟨us, vs, hfv, ⟨hus, huv⟩, hcs, hcv⟩ := hV
      have hargs : Vs J2 M2 (fst ++ dc.args.toList.map (aeval σ2.tmps) ++ cap) (fun i => (us ++ dc.args.map a2.eval ++ vs)[i]?) := by
        refine Vs_app (by simp [hus]) (Vs_app hus huv ?_) hcv
        have := Vs_map hs2 hv2 dc.args.toList
        refine Vs_mono (JLe.refl J2) (MLe.refl M2) _ _ _ (fun i v hv => ?_) this
        simpa using hv
      simp only [wpOps, ho]
      rw [if_pos (by simp [Region.wanted, hgu])]
      refine .inl ?_
      unfold Oper.wp
      have hrun : (execOp a2.eval o).run P w2 = .ok (.defer { target := .fn (.func g) vs, args := us ++ dc.args.map a2.eval }) w2 := by
        simp only [execOp, hop, resolve, hcal, hfv, Deferred.ofValue, Sem.run_bind, Sem.run_pure, Result.andThen_ok]
      rw [hrun, Oper.upon_defer]
      have hput : ∀ a : Act, a.put o.dst undef = a := by intro a; rw [hds]; rfl
      rw [hput]
      refine wp_mono (hw3 ⟨J2, M2, σ2.heap, w2, [{ target := .fn (.func g) vs, args := us ++ dc.args.map a2.eval }], false⟩ _ w2 (hok _ _ _ _ _ st2.hr) ⟨J2, M2, Stp.refl st2.hr, hs2, hv2, by rw [hd2.eq rfl]; exact DMk.none⟩) fun x a3 w3 hx => ?_
      have leave : ∀ (pv : Option AV) (u : FrameMode) (J3 : Jm) (M3 : Mm), Stp J2 M2 σ2.heap w2 J3 M3 σ3.heap w3 → a3.tmps.size = σ3.tmps.length → Vs J3 M3 σ3.tmps (fun i => a3.tmps[i]?) → a3.defers = [{ target := .fn (.func g) vs, args := us ++ dc.args.map a2.eval }] →
          fdk D pv (fst ++ dc.args.toList.map (aeval σ2.tmps) ++ cap) σ3.heap (fun h => finR (resOf P fn σ3.tmps h) h) = some (r, h') →
          (match pv with | none => u = .returning | some v => ∃ x, V J3 M3 v x ∧ u = .panicking [{ v := x, recovered := false }]) → Leaves P fn a3.tmps (fun e w' => ∃ J' M', Stp J M h w J' M' h' w' ∧ RelE J' M' r e) a3.defers u w3 := by
        intro pv u J3 M3 st3 hs3 hv3 hd3 hres hu
        rw [hd3]
        unfold fdk at hres
        split at hres
        case h_2 => cases hres
        rename_i h4 hD4
        have hrel : ∀ J4 M4 w4, Stp J3 M3 σ3.heap w3 J4 M4 h4 w4 → Leaves P fn a3.tmps (fun e w' => ∃ J' M', Stp J M h w J' M' h' w' ∧ RelE J' M' r e) [] .returning w4 := by
          intro J4 M4 w4 st4
          simp only [finR] at hres
          split at hres
          case h_2 => cases hres
          rename_i v hv'
          cases hres
          obtain ⟨x, h1, h2⟩ := resOf_sound st4.hr hs3 (Vs_mono st4.jle st4.mle _ _ _ (fun _ _ k => k) hv3) hv'
          exact ⟨x, h1, J4, M4, ((st2.trans st3).trans st4), x, rfl, h2⟩
        have hca := Vs_mono st3.jle st3.mle _ _ _ (fun _ _ k => k) hargs
        have hsz2 : (us ++ dc.args.map a2.eval ++ vs).size = (fst ++ dc.args.toList.map (aeval σ2.tmps) ++ cap).length := by simp [hcs, hus]
        have hin : (invoke (.fn (.func g) vs) (us ++ dc.args.map a2.eval)).run P w3 = .ok (.enter g (us ++ dc.args.map a2.eval ++ vs)) w3 := by
          simp only [invoke]
          exact hent _ w3
        have hgd := hgd pv _ _ _ hD4 J3 M3 w3 _ st3.hr hsz2 hca
        cases pv with
        | none =>
          subst hu
          refine leaves_cons (by simp) hin (CallsD.mono hgd fun e u' w' ⟨⟨x, he⟩, hu', J4, M4, st4⟩ => ?_)
          subst he; subst hu'
          exact hrel J4 M4 w' st4
        | some v =>
          obtain ⟨x, hx, rfl⟩ := hu
          refine leaves_cons (by simp) hin (CallsD.mono (hgd x hx) fun e u' w' ⟨⟨y, he⟩, hu', J4, M4, st4⟩ => ?_)
          subst he
          simp only
          rw [hu']
          exact hrel J4 M4 w' st4
      cases e3 with
      | normal =>
        obtain ⟨rfl, J3, M3, st3, hs3, hv3, hd3⟩ := hx
        exact leave none .returning J3 M3 st3 hs3 hv3 (hd3.eq rfl) hfin rfl
      | ret =>
        obtain ⟨rfl, J3, M3, st3, hs3, hv3, hd3⟩ := hx
        exact leave none .returning J3 M3 st3 hs3 hv3 (hd3.eq rfl) hfin rfl
      | exit i => cases hfin
      | pan v =>
        obtain ⟨J3, M3, u, rfl, st3, hV3, hd3, hs3, hv3⟩ := hx
        exact leave (some v) _ J3 M3 st3 hs3 hv3 (hd3.eq rfl) hfin ⟨u, hV3, rfl⟩
    have base := hw2 ⟨J, M, h, w, [], false⟩ a1 w1 hS1
    refine wpOps_imp ?_ base
    intro x a2 w2 hx
    obtain ⟨rfl, hS2⟩ := hx
    exact key a2 w2 hS2
theorem isRec_run {o : Oper} (ho : isRec o = true) (ρ : Operand → Value) (w : World) : (execOp ρ o).run P w = .ok .recover w ∧ o.guard = none := by
  unfold isRec at ho
  split at ho
  case h_2 => cases ho
  rename_i c hop hg
  split at ho
  case h_2 => cases ho
  rename_i hcal hargs
  refine ⟨?_, hg⟩
  simp only [execOp, hop, resolve, hcal, Sem.run_bind, Sem.run_pure, Result.andThen_ok, invoke]
  have : c.args = #[] := by rw [← Array.toList_inj]; exact hargs
  rw [this]
  rfl
theorem wpS_rec {id : Nat} {ops : Array Oper} {o : Oper} {rest : List Oper} {Q : Exit → Act → List Frame → World → Prop} {a : Act} {cs cs' : List Frame} {w : World} {v : Value} (hops : ops.toList = o :: rest) (hrec : isRec o = true)
    (hcs : recoverD cs = some (v, cs') ∨ recoverD cs = none ∧ v = .nilIface ∧ cs' = cs)
    (h : wpOps P ops (fun e a' w' => Q e a' cs' w') (List.range' 1 rest.length) (a.put o.dst v) w) : (Code.region id ops false).wpS P Q a cs w := by
  intro b k hb hro
  obtain ⟨e, a', w', hq, harr⟩ := wp_ops _ _ _ h b k cs'
  have ho : ops[0]? = some o := by rw [← Array.getElem?_toList, hops]; rfl
  have hsz : ops.size = rest.length + 1 := by rw [← Array.length_toList, hops]; rfl
  obtain ⟨hr, hg0⟩ := isRec_run (P := P) hrec a.eval w
  refine ⟨e, a', cs', w', hq, .of_steps (.head step_region (.one ?_)) harr⟩
  have hrng : List.range ops.size = 0 :: List.range' 1 rest.length := by
    rw [hsz, List.range_eq_range', List.range'_succ]
  rw [hrng]
  have hw : Region.wanted o (yielded ops a.tmps) = true := by simp [Region.wanted, hg0]
  have hg := stepG_op (P := P) (b := b) (k := k) (cs := cs) (w := w) (rest := List.range' 1 rest.length) ho hw
  have hfin : ∀ v, (b.at a (.inRegion ops (0 :: List.range' 1 rest.length) :: k)).finish v = b.at (a.put o.dst v) (.inRegion ops (List.range' 1 rest.length) :: k) := by
    intro v; rw [Frame.finish_at, ho]; rfl
  have hk : (b.at a (.inRegion ops (0 :: List.range' 1 rest.length) :: k)).kind = .deferred := hb
  have htr := tryRecover_deferred hk cs
  refine step_lone_go ?_
  rw [hg, ← hfin]
  simp only [Frame.at] at htr ⊢
  rcases hcs with hcs | ⟨hcs, rfl, rfl⟩
  · simp [stepG.apply, hr, htr, hcs]
  · simp [stepG.apply, hr, htr, hcs]
theorem fnR_sound (hm : P.follows .mixedOrders = true) (good : Good P Γ) {f : FuncId} {fn : Func} (hf : P.funcs[f]? = some fn) (hname : (fn.name == "runtime.NumGoroutine") = false) (hb : fn.body.isSome = true) {D : Dfd}
    (H : ∀ pv args h h', D pv args h = some h' → ∃ k, fnR P Γ ann trims k fn pv args h = some h') : GoodD P f D := by
  obtain ⟨c, hc⟩ := Option.isSome_iff_exists.1 hb
  refine ⟨Go.Proofs.enters_of hf hname hc, fun pv args h h' hD J M w cargs hr hsz hv => ?_⟩
  obtain ⟨k, hk⟩ := H pv args h h' hD
  unfold fnR at hk
  rcases bsq_inv hk with ⟨hne, hk⟩ | ⟨_, hk⟩
  case inr => cases hk
  have hno := (Bool.and_eq_true_iff.1 hne).2
  have hres : fn.results = #[] := by
    simp only [Bool.and_eq_true] at hne
    simpa using hne.1.2
  have hbo : bodyOf fn = c := by simp [bodyOf, hc]
  rw [hbo] at hk hno
  split at hk
  case h_2 => cases hk
  rename_i id ops cb
  split at hk
  · cases hk
  rename_i o rest hops
  rcases bsq_inv hk with ⟨hrec, hk⟩ | ⟨_, hk⟩
  case inr => cases hk
  rw [aopsL_eq P Γ ops false rest 1 (by rw [hops]; rfl)] at hk
  obtain ⟨e2, σ2, hK2, hw2⟩ := aops_sound good _ _ _ _ hk
  obtain ⟨he2, hN2⟩ := onlyN_inv hK2
  subst he2
  obtain ⟨e3, σ3, hfin, hw3⟩ := acode_sound hm good _ _ _ _ _ hN2
  replace hw3 := hw3.plain (noR_r (a := true) hno)
  have hok : (⟨J, M, h, w, [], false⟩ : Bs).ok := by
    intro o q e k
    obtain ⟨ob, hob, _⟩ := hr.key _ _ _ k
    exact (List.getElem?_eq_some_iff.1 hob).1
  have main : ∀ (v : Value) (u u' : FrameMode) (Rr : Ending → FrameMode → World → Prop), V J M (recV pv) v →
      (∀ c₀ cs, c₀.mode = u → recoverD (c₀ :: cs) = some (v, { c₀ with mode := u' } :: cs) ∨ recoverD (c₀ :: cs) = none ∧ v = .nilIface ∧ { c₀ with mode := u' } :: cs = c₀ :: cs) →
      (∀ x w' J' M', Stp J M h w J' M' h' w' → Rr (.returned x) u' w') → CallsD P f cargs u w Rr := by
    intro v u u' Rr hV hrv hR
    refine callsD_of_wpS hf hc fun c₀ cs hu => wpS_seq (wpS_rec hops hrec (hrv c₀ cs hu) ?_)
    have hS0 : Sim ⟨J, M, h, w, [], false⟩ ⟨putA o.dst (recV pv) (args ++ List.replicate (fn.ntmps - args.length) undefA), h⟩ (({ tmps := cargs ++ Array.replicate (fn.ntmps - cargs.size) undef, defers := [] } : Act).put o.dst v) w := by
      refine Sim.put (J := J) (M := M) (σ := ⟨args ++ List.replicate (fn.ntmps - args.length) undefA, h⟩) (by simp [hsz]) ?_ DMk.none (Stp.refl hr) (Stp.refl hr) hV
      rw [hsz]
      exact Vs_app hsz hv (Vs_replicate _)
    refine wpOps_imp (fun x a2 w2 hx => ?_) (hw2 _ _ _ hS0)
    obtain ⟨rfl, hS2⟩ := hx
    refine wpS_of_wp (wp_mono (hw3 _ a2 w2 hok hS2) fun x a3 w3 hx => ?_)
    have fin : ∀ tm, (results fn tm).run P w3 = .ok (.tuple #[]) w3 := by
      intro tm
      rw [results_run]
      simp [hres]
    cases e3 with
    | normal =>
      obtain ⟨rfl, J3, M3, st3, hs3, hv3, hd3⟩ := hx
      cases hfin
      exact ⟨hd3.eq rfl, u', rfl, _, fin _, hR _ _ _ _ st3⟩
    | ret =>
      obtain ⟨rfl, J3, M3, st3, hs3, hv3, hd3⟩ := hx
      cases hfin
      exact ⟨hd3.eq rfl, u', rfl, _, fin _, hR _ _ _ _ st3⟩
    | exit i => cases hfin
    | pan v => cases hfin
  cases pv with
  | none =>
    refine main .nilIface .returning .returning _ (by simp [recV, V, VR]) (fun c₀ cs hu => .inr ⟨?_, rfl, ?_⟩) fun x w' J' M' st => ⟨⟨x, rfl⟩, rfl, J', M', st⟩
    · simp [recoverD, hu]
    · rw [← hu]
  | some v =>
    intro u hV
    refine main u _ (.panicking [{ v := u, recovered := true }]) _ hV (fun c₀ cs hu => .inl ?_) fun x w' J' M' st => ⟨⟨x, rfl⟩, rfl, J', M', st⟩
    simp [recoverD, hu]
theorem goodPD (hm : P.follows .mixedOrders = true) (good : Good P Γ) {Δ : FuncId → Option Dfd} (gd : ∀ f D, Δ f = some D → GoodD P f D) {f : FuncId} {fn : Func} (hf : P.funcs[f]? = some fn) (hname : (fn.name == "runtime.NumGoroutine") = false) (hb : fn.body.isSome = true) {F : List RV → Option Res}
    (H : ∀ rs r, F rs = some r → ∃ k, pureR (fnD P Γ ann trims k Δ fn (rs.map .rv) []) = some r) : GoodC P f (.pure F) := by
  obtain ⟨c, hc⟩ := Option.isSome_iff_exists.1 hb
  refine ⟨Go.Proofs.enters_of hf hname hc, fun rs r hr => ?_⟩
  obtain ⟨k, hk⟩ := H rs r hr
  exact pcalls_of (fun r h' ho => fnD_sound hm good gd hf hb ho) hk
theorem goodGD (hm : P.follows .mixedOrders = true) (good : Good P Γ) {Δ : FuncId → Option Dfd} (gd : ∀ f D, Δ f = some D → GoodD P f D) {f : FuncId} {fn : Func} (hf : P.funcs[f]? = some fn) (hname : (fn.name == "runtime.NumGoroutine") = false) (hb : fn.body.isSome = true) {G : List AV → Hp → Option (ARes × Hp)}
    (H : ∀ args h x, G args h = some x → ∃ k, fnD P Γ ann trims k Δ fn args h = some x) : GoodC P f (.gen G) := by
  obtain ⟨c, hc⟩ := Option.isSome_iff_exists.1 hb
  refine ⟨Go.Proofs.enters_of hf hname hc, fun args h r h' hr => ?_⟩
  obtain ⟨k, hk⟩ := H _ _ _ hr
  exact fnD_sound hm good gd hf hb hk
end
end
end Go.Proofs.Ytknphnmhjmejaaa
