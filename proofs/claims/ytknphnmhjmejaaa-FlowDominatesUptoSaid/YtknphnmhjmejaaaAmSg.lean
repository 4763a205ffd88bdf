/-  The abstract machine's regions against the model's: one operation behind the other, and in any order. No conditions. -/
import Derived.Test.YtknphnmhjmejaaaAmSf
import Derived.LoopN
import Derived.LoopNIn
import Derived.OrdersIn
import Derived.RangeFuncLeaves
namespace Go.Proofs.Ytknphnmhjmejaaa
set_option linter.unusedVariables false

/-- Where a function began: its maps, its heap, its world, what it has deferred. -/
structure Bs where
  J : Jm
  M : Mm
  h : Hp
  w : World
  D : List Deferred
  /-- May there be ranges over functions? -/
  rng : Bool
/-- What a range over a function leaves among the deferred calls. -/
def mkD (D : Nat) : Deferred := { target := .collected D, args := #[] }
/-- What is deferred: such marks, each one's block there, and what was. -/
def DMk (B : Bs) (ds : List Deferred) (w : World) : Prop := ∃ l : List Nat, ds = l.map mkD ++ B.D ∧ l.Nodup ∧ (∀ D ∈ l, B.w.heap.size ≤ D ∧ w.heap[D]? = some (.deferred (some []))) ∧ (l = [] ∨ B.rng = true)
theorem DMk.none {B : Bs} {w : World} : DMk B B.D w := ⟨[], rfl, by simp, by simp, .inl rfl⟩
theorem DMk.eq {B : Bs} {ds : List Deferred} {w : World} (k : DMk B ds w) (h : B.rng = false) : ds = B.D := by
  obtain ⟨l, h1, _, _, h4⟩ := k
  rcases h4 with rfl | h4
  · exact h1
  · rw [h] at h4; cases h4
theorem DMk.step {B : Bs} {ds : List Deferred} {J M h w J' M' h' w'} (k : DMk B ds w) (hr : HR J M h w) (st : Stp J M h w J' M' h' w') : DMk B ds w' := by
  obtain ⟨l, h1, h2, h3, h6⟩ := k
  refine ⟨l, h1, h2, fun D hD => ?_, h6⟩
  obtain ⟨h4, h5⟩ := h3 D hD
  refine ⟨h4, ?_⟩
  rw [st.fr.block D (Array.getElem?_eq_some_iff.1 h5).1 fun ho => ?_]
  · exact h5
  · obtain ⟨o, ob, e, ho, he, rfl⟩ := ho
    obtain ⟨e', c, t, he', _, hb, _⟩ := hr.ob o ob ho
    rw [he] at he'
    cases he'
    rw [h5] at hb
    cases hb
def Sim (B : Bs) (σ : St) (a : Act) (w : World) : Prop :=
  ∃ J M, Stp B.J B.M B.h B.w J M σ.heap w ∧ a.tmps.size = σ.tmps.length ∧ Vs J M σ.tmps (fun i => a.tmps[i]?) ∧ DMk B a.defers w
def ExQ (B : Bs) (e : AE) (σ : St) : Exit → Act → World → Prop := fun x a w =>
  match e with
  | .normal => x = .normal ∧ Sim B σ a w
  | .exit i => x = .exit i ∧ Sim B σ a w
  | .ret => x = .ret ∧ Sim B σ a w
  | .pan v => ∃ J M u, x = .panic [{ v := u, recovered := false }] ∧ Stp B.J B.M B.h B.w J M σ.heap w ∧ V J M v u ∧ DMk B a.defers w ∧ a.tmps.size = σ.tmps.length ∧ Vs J M σ.tmps (fun i => a.tmps[i]?)

theorem Vs_set {J M} {ts : List AV} {tm : Array Value} (hs : tm.size = ts.length) (hv : Vs J M ts (fun i => tm[i]?)) (d : Nat) {x : AV} {u : Value} (hV : V J M x u) : Vs J M (ts.set d x) (fun i => (tm.setIfInBounds d u)[i]?) := by
  refine Vs_iff.2 fun i y hy => ?_
  rw [List.getElem?_set] at hy
  by_cases hd : d = i
  · subst hd
    rw [if_pos rfl] at hy
    split at hy
    · rename_i hlt
      cases hy
      have hlt' : d < tm.size := by omega
      exact ⟨u, by simp [hlt'], hV⟩
    · cases hy
  · rw [if_neg hd] at hy
    obtain ⟨v, hv', hV'⟩ := Vs_iff.1 hv _ _ hy
    exact ⟨v, by rw [Array.getElem?_setIfInBounds_ne hd]; exact hv', hV'⟩
theorem Sim.put {B : Bs} {σ : St} {a : Act} {w w' : World} {J M J' M' h'} {d : Option Tmp} {x : AV} {u : Value} (hs : a.tmps.size = σ.tmps.length) (hv : Vs J M σ.tmps (fun i => a.tmps[i]?)) (hd : DMk B a.defers w)
    (st0 : Stp B.J B.M B.h B.w J M σ.heap w) (st : Stp J M σ.heap w J' M' h' w') (hV : V J' M' x u) : Sim B ⟨putA d x σ.tmps, h'⟩ (a.put d u) w' := by
  have hv' : Vs J' M' σ.tmps (fun i => a.tmps[i]?) := Vs_mono st.jle st.mle _ _ _ (fun _ _ k => k) hv
  refine ⟨J', M', st0.trans st, ?_, ?_, ?_⟩
  · cases d <;> simp [Act.put, putA, tset_eq, hs]
  · cases d with
    | none => exact hv'
    | some d =>
      simp only [putA, tset_eq]
      exact Vs_set hs hv' d hV
  · have := hd.step st0.hr st
    cases d <;> exact this
section
variable {P : Program} {Γ : FuncId → Option Callee} {R : Type} {ops : Array Oper}
theorem opRes_wp {o : Oper} {σ : St} {v : AV} {h' : Hp} (H : OpRes P o σ.tmps σ.heap v h') {B : Bs} {a : Act} {w : World} (hs : Sim B σ a w) {next : Act → World → Prop} {Q : Exit → Act → World → Prop}
    (hn : ∀ a' w', Sim B ⟨putA o.dst v σ.tmps, h'⟩ a' w' → next a' w') : o.wp P a w next Q := by
  obtain ⟨J, M, st0, hsz, hv, hd⟩ := hs
  exact H J M w a st0.hr hsz hv next Q fun J' M' w' u st hV => hn _ _ (Sim.put hsz hv hd st0 st hV)
theorem opPan_wp {o : Oper} {σ : St} {v : AV} {h' : Hp} (H : OpPan P o σ.tmps σ.heap v h') {B : Bs} {a : Act} {w : World} (hs : Sim B σ a w) {next : Act → World → Prop} {Q : Exit → Act → World → Prop}
    (hn : ∀ x a' w', ExQ B (.pan v) ⟨σ.tmps, h'⟩ x a' w' → Q x a' w') : o.wp P a w next Q := by
  obtain ⟨J, M, st0, hsz, hv, hd⟩ := hs
  exact H J M w a st0.hr hsz hv next Q fun J' M' w' u st hV => hn _ a w' ⟨J', M', u, rfl, st0.trans st, hV, hd.step st0.hr st, hsz, Vs_mono st.jle st.mle _ _ _ (fun _ _ k => k) hv⟩
/-- A fence that lets all be; in a round of a loop or in none. -/
abbrev FW (r : Option Nat) : Fence := { Fence.wide with round := r }
theorem rowsIn_of {rr : Option Nat} {nn : Nat} {row : String} {args : Array Value} {w : World} {R : Value → World → Prop} (h : Rows P row args w R) : RowsIn (FW rr) nn P row args w R :=
  fun c cs _ => let ⟨v, w', r, s⟩ := h c cs; ⟨v, w', r, stepsIn_wide.2 s⟩
theorem wp_in {o : Oper} (hnd : ∀ c, o.op ≠ .defer c) {rr : Option Nat} {nn : Nat} {a : Act} {w : World} {next : Act → World → Prop} {Q : Exit → Act → World → Prop} (h : o.wp P a w next Q) : o.wpIn (FW rr) nn P a w next Q := by
  refine ⟨fun _ _ => trivial, ?_⟩
  rw [Oper.semAt_eq _ _ _ hnd]
  unfold Oper.wp at h
  generalize (execOp a.eval o).run P w = r at h ⊢
  have hdep : ((FW rr).depth.isSome = true → 1 ≤ nn) := fun h => by cases h
  cases r with
  | ok x w' =>
    cases x with
    | enter f args => exact ⟨hdep, callsIn_wide (n := nn - 1).2 h⟩
    | row r args => exact ⟨hdep, rowsIn_of h⟩
    | value v => exact h
    | skip => exact h
    | defer d => exact h
    | _ => exact h.elim
  | halt x w' =>
    cases x with
    | panic v => exact h
    | _ => exact h.elim
theorem opRes_wpIn {o : Oper} {σ : St} {v : AV} {h' : Hp} (H : OpRes P o σ.tmps σ.heap v h') (hnd : ∀ c, o.op ≠ .defer c) {B : Bs} {a : Act} {w : World} (hs : Sim B σ a w) {rr : Option Nat} {nn : Nat} {next : Act → World → Prop} {Q : Exit → Act → World → Prop}
    (hn : ∀ a' w', Sim B ⟨putA o.dst v σ.tmps, h'⟩ a' w' → next a' w') : o.wpIn (FW rr) nn P a w next Q := wp_in hnd (opRes_wp H hs hn)
theorem opPan_wpIn {o : Oper} {σ : St} {v : AV} {h' : Hp} (H : OpPan P o σ.tmps σ.heap v h') (hnd : ∀ c, o.op ≠ .defer c) {B : Bs} {a : Act} {w : World} (hs : Sim B σ a w) {rr : Option Nat} {nn : Nat} {next : Act → World → Prop} {Q : Exit → Act → World → Prop}
    (hn : ∀ x a' w', ExQ B (.pan v) ⟨σ.tmps, h'⟩ x a' w' → Q x a' w') : o.wpIn (FW rr) nn P a w next Q := wp_in hnd (opPan_wp H hs hn)
theorem aop_nodefer {o : Oper} {σ : St} {K Kp : AV → Hp → Option R} {r : R} (hk : aop P Γ o σ K Kp = some r) : ∀ c, o.op ≠ .defer c := by
  intro c h
  unfold aop at hk
  rw [h] at hk
  cases hk
theorem getD_val {B : Bs} {σ : St} {a : Act} {w : World} (hs : Sim B σ a w) {d : Nat} {x : RV} (hx : σ.tmps.getD d .any = .rv x) : ∃ J M u, a.tmps[d]? = some u ∧ VR M x u ∧ Stp B.J B.M B.h B.w J M σ.heap w := by
  obtain ⟨J, M, st0, hsz, hv, hd⟩ := hs
  rw [List.getD_eq_getElem?_getD] at hx
  cases hg : σ.tmps[d]? with
  | none => rw [hg] at hx; simp at hx
  | some y =>
    rw [hg] at hx
    simp only [Option.getD_some] at hx
    subst hx
    obtain ⟨u, hu, hU⟩ := Vs_iff.1 hv _ _ hg
    exact ⟨J, M, u, hu, by simpa only [V] using hU, st0⟩
theorem wanted_bool {o : Oper} {j : Nat} {want b : Bool} {d : Nat} {a : Act} (hg : o.guard = some (j, want)) (hd : (ops[j]?).bind (·.dst) = some d) (hv : a.tmps[d]? = some (.bool b)) : Region.wanted o (yielded ops a.tmps) = (b == want) := by
  simp only [Region.wanted, hg, yielded, hd, Option.bind_some, hv]
  cases b <;> cases want <;> rfl
theorem wanted_undef {o : Oper} {j : Nat} {want : Bool} {d : Nat} {a : Act} (hg : o.guard = some (j, want)) (hd : (ops[j]?).bind (·.dst) = some d) (hv : a.tmps[d]? = some (.tuple #[])) : Region.wanted o (yielded ops a.tmps) = false := by
  simp only [Region.wanted, hg, yielded, hd, Option.bind_some, hv]
  rfl
theorem undef_sim {B : Bs} {σ : St} {a : Act} {w : World} (hs : Sim B σ a w) (d : Option Tmp) : Sim B ⟨putA d undefA σ.tmps, σ.heap⟩ (a.put d undef) w := by
  obtain ⟨J, M, st0, hsz, hv, hd⟩ := hs
  exact Sim.put hsz hv hd st0 (Stp.refl st0.hr) (by simp [V, VR, undef, VRs])
theorem set_same {B : Bs} {σ : St} {a : Act} {w : World} (hs : Sim B σ a w) {d : Nat} {x : RV} (hx : σ.tmps.getD d .any = .rv x) : σ.tmps.set d (.rv x) = σ.tmps := by
  rw [List.getD_eq_getElem?_getD] at hx
  cases hg : σ.tmps[d]? with
  | none => rw [hg] at hx; simp at hx
  | some y =>
    rw [hg] at hx
    simp only [Option.getD_some] at hx
    subst hx
    obtain ⟨hlt, he⟩ := List.getElem?_eq_some_iff.1 hg
    rw [← he]
    exact List.set_getElem_self hlt
theorem set_same' {ts : List AV} {d : Nat} {x : RV} (hx : ts.getD d .any = .rv x) : ts.set d (.rv x) = ts := by
  rw [List.getD_eq_getElem?_getD] at hx
  cases hg : ts[d]? with
  | none => rw [hg] at hx; simp at hx
  | some y =>
    rw [hg] at hx
    simp only [Option.getD_some] at hx
    subst hx
    obtain ⟨hlt, he⟩ := List.getElem?_eq_some_iff.1 hg
    rw [← he]
    exact List.set_getElem_self hlt
theorem aops_old (dr : Bool) (i : Nat) (is : List Nat) (σ : St) (K : Cont R) : aops P Γ ops dr (i :: is) σ K =
    match ops[i]? with
    | none => aops P Γ ops dr is σ K
    | some o =>
      match o.guard with
      | none => aop P Γ o σ (fun v h => aops P Γ ops dr is ⟨putA o.dst v σ.tmps, h⟩ K) (fun v h => bsq (drl dr is.isEmpty ops.toList) none (K (.pan v) ⟨σ.tmps, h⟩))
      | some (j, want) =>
        match (ops[j]?).bind (·.dst) with
        | none => none
        | some d =>
          match σ.tmps.getD d .any with
          | .rv (.bool b) =>
            bsp b
              (if want = true then aop P Γ o ⟨σ.tmps.set d (ab true), σ.heap⟩ (fun v h => aops P Γ ops dr is ⟨putA o.dst v (σ.tmps.set d (ab true)), h⟩ K) (fun v h => bsq (drl dr is.isEmpty ops.toList) none (K (.pan v) ⟨σ.tmps.set d (ab true), h⟩))
                else aops P Γ ops dr is ⟨putA o.dst undefA (σ.tmps.set d (ab true)), σ.heap⟩ K)
              (if want = true then aops P Γ ops dr is ⟨putA o.dst undefA (σ.tmps.set d (ab false)), σ.heap⟩ K
                else aop P Γ o ⟨σ.tmps.set d (ab false), σ.heap⟩ (fun v h => aops P Γ ops dr is ⟨putA o.dst v (σ.tmps.set d (ab false)), h⟩ K) (fun v h => bsq (drl dr is.isEmpty ops.toList) none (K (.pan v) ⟨σ.tmps.set d (ab false), h⟩)))
          | .rv (.tuple []) => aops P Γ ops dr is ⟨putA o.dst undefA σ.tmps, σ.heap⟩ K
          | _ => none := by
  simp only [aops, fcd_eq, tget_eq, tset_eq]
  cases ops[i]? with
  | none => rfl
  | some o =>
    simp only
    cases o.guard with
    | none => rfl
    | some g =>
      obtain ⟨j, want⟩ := g
      cases want <;> rfl
/-- One operation behind the other. -/
theorem aops_sound (good : Good P Γ) : ∀ (is : List Nat) (σ : St) (K : Cont R) (r : R), aops P Γ ops false is σ K = some r → ∃ e σ', K e σ' = some r ∧ ∀ B a w, Sim B σ a w → wpOps P ops (ExQ B e σ') is a w
  | [], σ, K, r, hk => by
    simp only [aops] at hk
    exact ⟨.normal, σ, hk, fun B a w hs => ⟨rfl, hs⟩⟩
  | i :: is, σ, K, r, hk => by
    rw [aops_old] at hk
    split at hk
    · rename_i ho
      obtain ⟨e, σ', h1, h2⟩ := aops_sound good is σ K r hk
      exact ⟨e, σ', h1, fun B a w hs => by simp only [wpOps, ho]; exact h2 B a w hs⟩
    · rename_i o ho
      have go : ∀ (σ : St) , aop P Γ o σ (fun v h => aops P Γ ops false is ⟨putA o.dst v σ.tmps, h⟩ K) (fun v h => bsq (drl false is.isEmpty ops.toList) none (K (.pan v) ⟨σ.tmps, h⟩)) = some r →
          ∃ e σ', K e σ' = some r ∧ ∀ B a w, Sim B σ a w → Region.wanted o (yielded ops a.tmps) = true → wpOps P ops (ExQ B e σ') (i :: is) a w := by
        intro σ hk
        rcases aop_sound (ts := σ.tmps) (h := σ.heap) good hk with ⟨v, h', hk, H⟩ | ⟨v, h', hk, H⟩
        · obtain ⟨e, σ', h1, h2⟩ := aops_sound good is _ K r hk
          refine ⟨e, σ', h1, fun B a w hs hw => ?_⟩
          simp only [wpOps, ho, hw, if_true]
          exact .inl (opRes_wp H hs fun a' w' hs' => h2 B a' w' hs')
        · refine ⟨.pan v, ⟨σ.tmps, h'⟩, hk, fun B a w hs hw => ?_⟩
          simp only [wpOps, ho, hw, if_true]
          exact .inl (opPan_wp H hs fun x a' w' hx => hx)
      have skip : ∀ (σ : St), aops P Γ ops false is ⟨putA o.dst undefA σ.tmps, σ.heap⟩ K = some r →
          ∃ e σ', K e σ' = some r ∧ ∀ B a w, Sim B σ a w → Region.wanted o (yielded ops a.tmps) = false → wpOps P ops (ExQ B e σ') (i :: is) a w := by
        intro σ hk
        obtain ⟨e, σ', h1, h2⟩ := aops_sound good is _ K r hk
        refine ⟨e, σ', h1, fun B a w hs hw => ?_⟩
        simp only [wpOps, ho, hw, Bool.false_eq_true, if_false]
        exact h2 B _ w (undef_sim hs o.dst)
      split at hk
      · rename_i hg
        obtain ⟨e, σ', h1, h2⟩ := go σ hk
        exact ⟨e, σ', h1, fun B a w hs => h2 B a w hs (by simp [Region.wanted, hg])⟩
      · rename_i j want hg
        split at hk
        · cases hk
        rename_i d hd
        split at hk
        · rename_i b hb
          have hw : ∀ B a w, Sim B σ a w → Region.wanted o (yielded ops a.tmps) = (b == want) := by
            intro B a w hs
            obtain ⟨J, M, u, hu, hU, _⟩ := getD_val hs hb
            simp only [VR] at hU
            subst hU
            exact wanted_bool hg hd hu
          rcases bsp_inv hk with ⟨rfl, hk⟩ | ⟨rfl, hk⟩
          · have hset : σ.tmps.set d (ab true) = σ.tmps := set_same' hb
            rw [hset] at hk
            split at hk
            · rename_i hwt
              obtain ⟨e, σ', h1, h2⟩ := go σ hk
              exact ⟨e, σ', h1, fun B a w hs => h2 B a w hs (by rw [hw B a w hs, hwt]; rfl)⟩
            · rename_i hwt
              obtain ⟨e, σ', h1, h2⟩ := skip σ hk
              exact ⟨e, σ', h1, fun B a w hs => h2 B a w hs (by rw [hw B a w hs]; cases want <;> simp_all)⟩
          · have hset : σ.tmps.set d (ab false) = σ.tmps := set_same' hb
            rw [hset] at hk
            split at hk
            · rename_i hwt
              obtain ⟨e, σ', h1, h2⟩ := skip σ hk
              exact ⟨e, σ', h1, fun B a w hs => h2 B a w hs (by rw [hw B a w hs, hwt]; rfl)⟩
            · rename_i hwt
              obtain ⟨e, σ', h1, h2⟩ := go σ hk
              exact ⟨e, σ', h1, fun B a w hs => h2 B a w hs (by rw [hw B a w hs]; cases want <;> simp_all)⟩
        · rename_i hb
          obtain ⟨e, σ', h1, h2⟩ := skip σ hk
          refine ⟨e, σ', h1, fun B a w hs => h2 B a w hs ?_⟩
          obtain ⟨J, M, u, hu, hU, _⟩ := getD_val hs hb
          simp only [VR] at hU
          obtain ⟨vs, rfl, hsz, _⟩ := hU
          have : vs = #[] := Array.eq_empty_of_size_eq_zero (by simpa using hsz)
          subst this
          exact wanted_undef hg hd hu
        · cases hk
/-- One operation behind the other. -/
theorem aopsIn_sound (good : Good P Γ) : ∀ (is : List Nat) (σ : St) (K : Cont R) (r : R), aops P Γ ops false is σ K = some r → ∃ e σ', K e σ' = some r ∧ ∀ rr nn B a w, Sim B σ a w → wpOpsIn (FW rr) nn P ops (ExQ B e σ') is a w
  | [], σ, K, r, hk => by
    simp only [aops] at hk
    exact ⟨.normal, σ, hk, fun rr nn B a w hs => ⟨rfl, hs⟩⟩
  | i :: is, σ, K, r, hk => by
    rw [aops_old] at hk
    split at hk
    · rename_i ho
      obtain ⟨e, σ', h1, h2⟩ := aopsIn_sound good is σ K r hk
      exact ⟨e, σ', h1, fun rr nn B a w hs => by simp only [wpOpsIn, ho]; exact h2 rr nn B a w hs⟩
    · rename_i o ho
      have go : ∀ (σ : St) , aop P Γ o σ (fun v h => aops P Γ ops false is ⟨putA o.dst v σ.tmps, h⟩ K) (fun v h => bsq (drl false is.isEmpty ops.toList) none (K (.pan v) ⟨σ.tmps, h⟩)) = some r →
          ∃ e σ', K e σ' = some r ∧ ∀ rr nn B a w, Sim B σ a w → Region.wanted o (yielded ops a.tmps) = true → wpOpsIn (FW rr) nn P ops (ExQ B e σ') (i :: is) a w := by
        intro σ hk
        have hnd := aop_nodefer hk
        rcases aop_sound (ts := σ.tmps) (h := σ.heap) good hk with ⟨v, h', hk, H⟩ | ⟨v, h', hk, H⟩
        · obtain ⟨e, σ', h1, h2⟩ := aopsIn_sound good is _ K r hk
          refine ⟨e, σ', h1, fun rr nn B a w hs hw => ?_⟩
          simp only [wpOpsIn, ho, hw, if_true]
          exact opRes_wpIn H hnd hs fun a' w' hs' => h2 rr nn B a' w' hs'
        · refine ⟨.pan v, ⟨σ.tmps, h'⟩, hk, fun rr nn B a w hs hw => ?_⟩
          simp only [wpOpsIn, ho, hw, if_true]
          exact opPan_wpIn H hnd hs fun x a' w' hx => hx
      have skip : ∀ (σ : St), aops P Γ ops false is ⟨putA o.dst undefA σ.tmps, σ.heap⟩ K = some r →
          ∃ e σ', K e σ' = some r ∧ ∀ rr nn B a w, Sim B σ a w → Region.wanted o (yielded ops a.tmps) = false → wpOpsIn (FW rr) nn P ops (ExQ B e σ') (i :: is) a w := by
        intro σ hk
        obtain ⟨e, σ', h1, h2⟩ := aopsIn_sound good is _ K r hk
        refine ⟨e, σ', h1, fun rr nn B a w hs hw => ?_⟩
        simp only [wpOpsIn, ho, hw, Bool.false_eq_true, if_false]
        exact ⟨fun _ _ => trivial, h2 rr nn B _ w (undef_sim hs o.dst)⟩
      split at hk
      · rename_i hg
        obtain ⟨e, σ', h1, h2⟩ := go σ hk
        exact ⟨e, σ', h1, fun rr nn B a w hs => h2 rr nn B a w hs (by simp [Region.wanted, hg])⟩
      · rename_i j want hg
        split at hk
        · cases hk
        rename_i d hd
        split at hk
        · rename_i b hb
          have hw : ∀ B a w, Sim B σ a w → Region.wanted o (yielded ops a.tmps) = (b == want) := by
            intro B a w hs
            obtain ⟨J, M, u, hu, hU, _⟩ := getD_val hs hb
            simp only [VR] at hU
            subst hU
            exact wanted_bool hg hd hu
          rcases bsp_inv hk with ⟨rfl, hk⟩ | ⟨rfl, hk⟩
          · have hset : σ.tmps.set d (ab true) = σ.tmps := set_same' hb
            rw [hset] at hk
            split at hk
            · rename_i hwt
              obtain ⟨e, σ', h1, h2⟩ := go σ hk
              exact ⟨e, σ', h1, fun rr nn B a w hs => h2 rr nn B a w hs (by rw [hw B a w hs, hwt]; rfl)⟩
            · rename_i hwt
              obtain ⟨e, σ', h1, h2⟩ := skip σ hk
              exact ⟨e, σ', h1, fun rr nn B a w hs => h2 rr nn B a w hs (by rw [hw B a w hs]; cases want <;> simp_all)⟩
          · have hset : σ.tmps.set d (ab false) = σ.tmps := set_same' hb
            rw [hset] at hk
            split at hk
            · rename_i hwt
              obtain ⟨e, σ', h1, h2⟩ := skip σ hk
              exact ⟨e, σ', h1, fun rr nn B a w hs => h2 rr nn B a w hs (by rw [hw B a w hs, hwt]; rfl)⟩
            · rename_i hwt
              obtain ⟨e, σ', h1, h2⟩ := go σ hk
              exact ⟨e, σ', h1, fun rr nn B a w hs => h2 rr nn B a w hs (by rw [hw B a w hs]; cases want <;> simp_all)⟩
        · rename_i hb
          obtain ⟨e, σ', h1, h2⟩ := skip σ hk
          refine ⟨e, σ', h1, fun rr nn B a w hs => h2 rr nn B a w hs ?_⟩
          obtain ⟨J, M, u, hu, hU, _⟩ := getD_val hs hb
          simp only [VR] at hU
          obtain ⟨vs, rfl, hsz, _⟩ := hU
          have : vs = #[] := Array.eq_empty_of_size_eq_zero (by simpa using hsz)
          subst this
          exact wanted_undef hg hd hu
        · cases hk
end
end Go.Proofs.Ytknphnmhjmejaaa
