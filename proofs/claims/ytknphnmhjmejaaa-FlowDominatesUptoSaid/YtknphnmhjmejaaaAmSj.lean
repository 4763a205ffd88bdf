/-  The abstract machine's functions against the model's. No conditions. -/
import Derived.Test.YtknphnmhjmejaaaAmSk
import Derived.Shelf.Abstract
namespace Go.Proofs.Ytknphnmhjmejaaa
set_option linter.unusedVariables false
section
variable {P : Program} {Γ : FuncId → Option Callee} {ann : Ann} {trims : List Nat} {k : Nat}
def resRun (tm : Array Value) : ResultVar → Sem Value
  | .tmp t => pure (tm.getD t undef)
  | .cell a t => do loadVar t (← asAddr (tm.getD a undef))
theorem resA_sound {J M h w} (hr : HR J M h w) {ts : List AV} {tm : Array Value} (hs : tm.size = ts.length) (hv : Vs J M ts (fun i => tm[i]?)) {rv : ResultVar} {x : AV} (hx : resA P ts h rv = some x) :
    ∃ u, (resRun tm rv).run P w = .ok u w ∧ V J M x u := by
  have ev : ∀ t, V J M (tget ts t) (tm.getD t undef) := fun t => eval_rel (a := ⟨tm, []⟩) hs hv (.tmp t)
  cases rv with
  | tmp t =>
    simp only [resA, Option.some.injEq] at hx
    subst hx
    exact ⟨_, by simp [resRun], ev t⟩
  | cell t ty =>
    simp only [resA] at hx
    split at hx
    · rename_i fs hd
      rcases bsq_inv hx with ⟨_, hx⟩ | ⟨h0, hx⟩
      · cases hx
      · simp only [Option.map_eq_some_iff] at hx
        obtain ⟨l, hl, rfl⟩ := hx
        have hne : P.cellsOf ty ≠ 0 := fun e => by rw [e] at h0; cases h0
        obtain ⟨h0, hlen, H⟩ := cellsN_sound hr (ev t) _ _ _ hl
        obtain ⟨ad, hu⟩ := h0.resolve_left hne
        obtain ⟨vs, hvl, hvc, hvV⟩ := H ad hu
        refine ⟨.agg vs.toArray, by simp [resRun, hu, loadVar_agg hd rfl hvl (fun i v hi => by simpa using hvc i v hi), asAddr], ?_⟩
        simp only [V]
        exact ⟨_, rfl, by simp [hvl, hlen], by simpa using hvV⟩
    · cases hx
    · rename_i d hn1 hn2 hd
      obtain ⟨ad, u, hu, hc, hV⟩ := cellAt_sound hr (ev t) hx
      rw [add_zero] at hc
      exact ⟨u, by simp [resRun, hu, asAddr, loadVar_one hd (by cases d <;> simp_all [isAggD]) hc], hV⟩
    · cases hx
theorem results_run (fn : Func) (tm : Array Value) : results fn tm = (do let vs ← fn.results.mapM (resRun tm); pure (if h : vs.size = 1 then vs[0] else .tuple vs)) := by
  unfold results
  congr 1
theorem resOf_sound {J M h w} (hr : HR J M h w) {ts : List AV} {tm : Array Value} (hs : tm.size = ts.length) (hv : Vs J M ts (fun i => tm[i]?)) {fn : Func} {x : AV} (hx : resOf P fn ts h = some x) :
    ∃ u, (results fn tm).run P w = .ok u w ∧ V J M x u := by
  rw [results_run]
  unfold resOf at hx
  split at hx
  · rename_i he
    have he : fn.results = #[] := by rw [← Array.toList_inj]; exact he
    cases hx
    exact ⟨.tuple #[], by simp [he], by simp [V, VR, VRs]⟩
  · rename_i r he
    have he : fn.results = #[r] := by rw [← Array.toList_inj]; exact he
    obtain ⟨u, h1, h2⟩ := resA_sound hr hs hv hx
    exact ⟨u, by simp [he, h1], h2⟩
  · rename_i r s he
    have he : fn.results = #[r, s] := by rw [← Array.toList_inj]; exact he
    unfold two at hx
    split at hx
    case h_2 => cases hx
    rename_i a b ha hb
    cases hx
    obtain ⟨u, h1, h2⟩ := resA_sound hr hs hv ha
    obtain ⟨v, h3, h4⟩ := resA_sound hr hs hv hb
    refine ⟨.tuple #[u, v], by simp [he, h1, h3], ?_⟩
    simp only [V]
    exact ⟨_, rfl, rfl, by simp [Vs, h2, h4]⟩
  · rename_i r s t he
    have he : fn.results = #[r, s, t] := by rw [← Array.toList_inj]; exact he
    unfold three at hx
    split at hx
    case h_2 => cases hx
    rename_i a b c ha hb hc
    cases hx
    obtain ⟨u, h1, h2⟩ := resA_sound hr hs hv ha
    obtain ⟨v, h3, h4⟩ := resA_sound hr hs hv hb
    obtain ⟨z, h5, h6⟩ := resA_sound hr hs hv hc
    refine ⟨.tuple #[u, v, z], by simp [he, h1, h3, h5], ?_⟩
    simp only [V]
    exact ⟨_, rfl, rfl, by simp [Vs, h2, h4, h6]⟩
  · cases hx
theorem Vs_replicate {J M} (n : Nat) : Vs J M (List.replicate n undefA) (fun i => (Array.replicate n undef)[i]?) := by
  refine Vs_iff.2 fun i x hx => ?_
  rw [List.getElem?_replicate] at hx
  split at hx
  · cases hx
    exact ⟨undef, by simp [*], by simp [V, VR, VRs, undef]⟩
  · cases hx
/-- Marks come to nothing at the end. -/
theorem marks_leave {fn : Func} {tm : Array Value} {R : Ending → World → Prop} {u : FrameMode} (hu : u ≠ .run) {J M h w J' M' h'} : ∀ (l : List Nat) (w' : World), l.Nodup → (∀ D ∈ l, w.heap.size ≤ D ∧ w'.heap[D]? = some (.deferred (some []))) → Stp J M h w J' M' h' w' →
    (∀ w2, Stp J M h w J' M' h' w2 → LeavesIn (FW none) 0 P fn tm R [] u w2) → LeavesInM (FW none) 0 P fn tm R (l.map mkD) u w'
  | [], w', _, _, st, H => H w' st
  | D :: l, w', hn, hl, st, H => by
    obtain ⟨h1, h2⟩ := hl D (by simp)
    rw [List.nodup_cons] at hn
    refine ⟨hu, .inl ⟨D, _, rfl, run_takeDeferred h2, marks_leave hu l _ hn.2 (fun D' hD' => ?_) (st.far h1 _ h2 (nc_def _)) H⟩⟩
    refine ⟨(hl D' (by simp [hD'])).1, ?_⟩
    rw [World.putObj_heap_other (by rintro rfl; exact hn.1 hD')]
    exact (hl D' (by simp [hD'])).2
/-- What the machine makes of a function is what a call of it does. -/
theorem fnA_sound (hm : P.follows .mixedOrders = true) (good : Good P Γ) {f : FuncId} {fn : Func} (hf : P.funcs[f]? = some fn) (hb : fn.body.isSome = true) {args : List AV} {h : Hp} {r : ARes} {h' : Hp}
    (hk : fnA P Γ ann trims k fn args h = some (r, h')) : ACalls P f args h r h' := by
  intro J M w cargs hr hsz hv
  unfold fnA at hk
  rcases bsq_inv hk with ⟨_, hk⟩ | ⟨_, hk⟩
  case inr => cases hk
  obtain ⟨e, σ', hfin, hwp⟩ := acode_sound hm good _ _ _ _ _ hk
  obtain ⟨c, hc⟩ := Option.isSome_iff_exists.1 hb
  have hbo : bodyOf fn = c := by simp [bodyOf, hc]
  rw [hbo] at hwp
  refine (callsIn_wide (n := 0)).1 (callsIn_of_wp_marks (F := FW none) hf hc trivial (wpIn_mono (hwp none 0 ⟨J, M, h, w, [], true⟩ _ w (.inl ⟨rfl, rfl⟩) ?_ ?_) fun x a' w' hx => ?_))
  · intro o q e k
    obtain ⟨ob, hob, _⟩ := hr.key _ _ _ k
    exact (List.getElem?_eq_some_iff.1 hob).1
  · refine ⟨J, M, Stp.refl hr, by simp [hsz], ?_, DMk.none⟩
    rw [hsz]
    exact Vs_app hsz hv (Vs_replicate _)
  · have fin : ∀ (ts : List AV), finR (resOf P fn σ'.tmps σ'.heap) σ'.heap = some (r, h') → Sim ⟨J, M, h, w, [], true⟩ σ' a' w' →
        LeavesInM (FW none) 0 P fn a'.tmps (fun e w' => ∃ J' M', Stp J M h w J' M' h' w' ∧ RelE J' M' r e) a'.defers .returning w' := by
      intro _ hfin hS
      obtain ⟨J', M', st, hs', hv', ds, hd, hnd, hds, _⟩ := hS
      rw [hd, List.append_nil]
      unfold finR at hfin
      split at hfin
      · rename_i v hres
        cases hfin
        refine marks_leave (by simp) ds w' hnd hds st fun w2 st2 => ?_
        obtain ⟨u, h1, h2⟩ := resOf_sound st2.hr hs' hv' hres
        exact ⟨u, h1, J', M', st2, u, rfl, h2⟩
      · cases hfin
    cases e with
    | normal => obtain ⟨rfl, hS⟩ := hx; exact fin [] hfin hS
    | ret => obtain ⟨rfl, hS⟩ := hx; exact fin [] hfin hS
    | exit i => cases hfin
    | pan v =>
      obtain ⟨J', M', u, rfl, st, hV, ⟨ds, hd, hnd, hds, _⟩, _⟩ := hx
      cases hfin
      show LeavesInM (FW none) 0 P fn a'.tmps _ a'.defers _ w'
      rw [hd, List.append_nil]
      exact marks_leave (by simp) ds w' hnd hds st fun w2 st2 => ⟨J', M', st2, u, rfl, hV⟩
theorem noJ {M : Mm} {w : World} (him : Held M w) : HR (fun _ _ => none) M [] w :=
  ⟨fun o ob ho => (by simp at ho), fun o r e k => (by cases k), fun o1 o2 ob1 ob2 e1 e2 h1 => (by simp at h1), him, fun a v o ob e k ho => (by simp at ho)⟩
theorem not_owned {b : Nat} : ¬ owned (fun _ _ => none) [] b := by
  rintro ⟨o, ob, e, ho, _⟩
  simp at ho
/-- A call with values held still. -/
theorem pcalls_of {f : FuncId} {rs : List RV} {r : Res} {o : Option (ARes × Hp)} (H : ∀ r h', o = some (r, h') → ACalls P f (rs.map .rv) [] r h') (hk : pureR o = some r) : PCalls P f rs r := by
  have fin : ∀ (v : AV) (h' : Hp) (x : RV) (ra : ARes) (rr : Res), o = some (ra, h') → toRV h' depthA v = some x →
      (∀ J M M' e, RelE J M ra e → (∀ u, V J M v u → VR M' x u) → RelP M' rr e) → PCalls P f rs rr := by
    intro v h' x ra rr ho hx hrel M w cargs him hsz hv
    refine (H ra h' ho (fun _ _ => none) M w cargs (noJ him) (by simpa using hsz) (Vs_iff.2 fun i y hy => ?_)).mono fun e w' ⟨J', M', st, hR⟩ => ?_
    · rw [List.getElem?_map] at hy
      simp only [Option.map_eq_some_iff] at hy
      obtain ⟨y', hy', rfl⟩ := hy
      obtain ⟨u, hu, hU⟩ := VRs_iff.1 hv _ _ hy'
      exact ⟨u, hu, by simpa only [V] using hU⟩
    · refine ⟨heldM J' M' h' w', st.mle.trans heldM_le, heldM_held st.hr, ?_, ⟨st.fr.os, st.fr.tape, st.fr.output, st.fr.size, fun b hb _ => st.fr.block b hb not_owned⟩, ?_⟩
      · intro a z hz
        unfold heldM at hz
        split at hz
        · simp only [Option.some.injEq] at hz
          subst hz
          rcases st.mnew _ _ ‹_› with k | k | k
          · exact .inl k
          · exact absurd k not_owned
          · exact .inr k
        · split at hz
          · rcases st.onew _ ‹_› with k | k
            · exact absurd k not_owned
            · exact .inr k
          · cases hz
      · exact hrel J' M' _ e hR fun u hu => toRV_sound st.hr _ _ _ _ hx hu
  unfold pureR at hk
  split at hk
  · rename_i v h'
    simp only [Option.map_eq_some_iff] at hk
    obtain ⟨x, hx, rfl⟩ := hk
    refine fin v h' x _ _ rfl hx fun J M M' e hR hu => ?_
    obtain ⟨u, rfl, hV⟩ := hR
    exact ⟨u, rfl, hu u hV⟩
  · rename_i v h'
    simp only [Option.map_eq_some_iff] at hk
    obtain ⟨x, hx, rfl⟩ := hk
    refine fin v h' x _ _ rfl hx fun J M M' e hR hu => ?_
    obtain ⟨u, rfl, hV⟩ := hR
    exact ⟨u, rfl, hu u hV⟩
  · cases hk
/-- A function that writes nothing that was there, known by what it makes of values held still. -/
theorem goodP (hm : P.follows .mixedOrders = true) (good : Good P Γ) {f : FuncId} {fn : Func} (hf : P.funcs[f]? = some fn) (hname : (fn.name == "runtime.NumGoroutine") = false) (hb : fn.body.isSome = true) {F : List RV → Option Res}
    (H : ∀ rs r, F rs = some r → ∃ k, pureR (fnA P Γ ann trims k fn (rs.map .rv) []) = some r) : GoodC P f (.pure F) := by
  obtain ⟨c, hc⟩ := Option.isSome_iff_exists.1 hb
  refine ⟨Go.Proofs.enters_of hf hname hc, fun rs r hr => ?_⟩
  obtain ⟨k, hk⟩ := H rs r hr
  exact pcalls_of (fun r h' ho => fnA_sound hm good hf hb ho) hk
theorem goodG (hm : P.follows .mixedOrders = true) (good : Good P Γ) {f : FuncId} {fn : Func} (hf : P.funcs[f]? = some fn) (hname : (fn.name == "runtime.NumGoroutine") = false) (hb : fn.body.isSome = true) {G : List AV → Hp → Option (ARes × Hp)}
    (H : ∀ args h x, G args h = some x → ∃ k, fnA P Γ ann trims k fn args h = some x) : GoodC P f (.gen G) := by
  obtain ⟨c, hc⟩ := Option.isSome_iff_exists.1 hb
  refine ⟨Go.Proofs.enters_of hf hname hc, fun args h r h' hr => ?_⟩
  obtain ⟨k, hk⟩ := H _ _ _ hr
  exact fnA_sound hm good hf hb hk
end
end Go.Proofs.Ytknphnmhjmejaaa
