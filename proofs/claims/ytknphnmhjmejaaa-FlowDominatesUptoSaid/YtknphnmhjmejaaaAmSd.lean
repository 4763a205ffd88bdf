/-  The abstract machine's operations against the model's: slices cut, structs and slices built, append. No conditions. -/
import Derived.Test.YtknphnmhjmejaaaAmSc
namespace Go.Proofs.Ytknphnmhjmejaaa
set_option linter.unusedVariables false
section ops
variable {P : Program} {Γ : FuncId → Option Callee} {R : Type} {o : Oper} {ts : List AV} {h : Hp} {K Kp : AV → Hp → Option R} {r : R}

def turnJ (J : Jm) (o ver : Nat) (e : JE) : Jm := fun o' q => if o' = o ∧ q = ver then some e else J o' q
/-- The object o is turned: another stamp, other cells, in its block or in a new one. -/
theorem HR.turn {J M h w} (r : HR J M h w) {o : Nat} {ob : Ob} {e e' : JE} (ho : h[o]? = some ob) (he : J o ob.ver = some e) (hes : e'.esz = ob.esz) {cells' : List AV} {c' : Array Value} {t : TypeId} {w' : World}
    (hw : w'.heap[e'.b]? = some (.cells c' t (0, 0))) (hn : c'.size = e'.n) (hl : Vs J M cells' (fun i => c'[i]?)) (hb : e'.b = e.b ∨ w.heap.size ≤ e'.b) (hfr : Fr (fun b => b = e'.b) w w') :
    Stp J M h w (turnJ J o (ob.ver + 1) e') M (h.set o ⟨ob.ver + 1, ob.esz, cells'⟩) w' := by
  have hlt := (List.getElem?_eq_some_iff.1 ho).1
  have elt := owned_lt r ⟨o, ob, e, ho, he, rfl⟩
  have hJ : JLe J (turnJ J o (ob.ver + 1) e') := by
    intro o2 q e2 k
    unfold turnJ
    rw [if_neg]
    · exact k
    · rintro ⟨rfl, rfl⟩
      obtain ⟨ob2, hb2, hle⟩ := r.key _ _ _ k
      rw [ho] at hb2
      cases hb2
      omega
  have cases' : ∀ o2 ob2, (h.set o (⟨ob.ver + 1, ob.esz, cells'⟩ : Ob))[o2]? = some ob2 → (o2 = o ∧ ob2 = ⟨ob.ver + 1, ob.esz, cells'⟩) ∨ (o2 ≠ o ∧ h[o2]? = some ob2) := by
    intro o2 ob2 h2
    rw [List.getElem?_set] at h2
    split at h2
    · rename_i e
      subst e
      simp only [Option.some.injEq] at h2
      exact .inl ⟨rfl, h2.symm⟩
    · rename_i hne; exact .inr ⟨fun e => hne e.symm, h2⟩
  have jnew : (turnJ J o (ob.ver + 1) e') o (ob.ver + 1) = some e' := by simp [turnJ]
  have jold : ∀ o2 ob2, o2 ≠ o → (turnJ J o (ob.ver + 1) e') o2 ob2 = J o2 ob2 := by
    intro o2 q hne
    unfold turnJ
    rw [if_neg (fun k => hne k.1)]
  have other : ∀ o2 ob2 e2, o2 ≠ o → h[o2]? = some ob2 → J o2 ob2.ver = some e2 → e2.b ≠ e'.b := by
    intro o2 ob2 e2 hne h2 k2 hbb
    rcases hb with hb | hb
    · exact hne (r.inj _ _ _ _ _ _ h2 ho k2 he (hbb.trans hb))
    · have := owned_lt r ⟨o2, ob2, e2, h2, k2, rfl⟩
      omega
  have hr : HR (turnJ J o (ob.ver + 1) e') M (h.set o ⟨ob.ver + 1, ob.esz, cells'⟩) w' := by
    refine ⟨?_, ?_, ?_, ?_, ?_⟩
    · intro o2 ob2 h2
      rcases cases' o2 ob2 h2 with ⟨rfl, rfl⟩ | ⟨hne, h2⟩
      · exact ⟨e', c', t, jnew, hes, hw, hn, Vs_mono hJ (MLe.refl M) _ _ _ (fun _ _ k => k) hl⟩
      · obtain ⟨e2, c2, t2, he2, hs2, hb2, hn2, hv2⟩ := r.ob o2 ob2 h2
        refine ⟨e2, c2, t2, by rw [jold _ _ hne]; exact he2, hs2, ?_, hn2, Vs_mono hJ (MLe.refl M) _ _ _ (fun _ _ k => k) hv2⟩
        rw [hfr.block _ (lt_of_cells hb2) (other _ _ _ hne h2 he2)]
        exact hb2
    · intro o2 q e2 k
      unfold turnJ at k
      split at k
      · rename_i hc
        obtain ⟨rfl, rfl⟩ := hc
        exact ⟨⟨ob.ver + 1, ob.esz, cells'⟩, by simp [hlt], Nat.le_refl _⟩
      · obtain ⟨ob2, hb2, hle⟩ := r.key _ _ _ k
        by_cases hne : o2 = o
        · subst hne
          rw [ho] at hb2; cases hb2
          exact ⟨⟨ob.ver + 1, ob.esz, cells'⟩, by simp [hlt], Nat.le_succ_of_le hle⟩
        · exact ⟨ob2, by rw [List.getElem?_set, if_neg (fun e => hne e.symm)]; exact hb2, hle⟩
    · intro o1 o2 ob1 ob2 e1 e2 h1 h2 k1 k2 hbb
      rcases cases' _ _ h1 with ⟨rfl, rfl⟩ | ⟨n1, h1⟩ <;> rcases cases' _ _ h2 with ⟨rfl, rfl⟩ | ⟨n2, h2⟩
      · rfl
      · rw [jnew] at k1; cases k1
        rw [jold _ _ n2] at k2
        exact absurd hbb.symm (other _ _ _ n2 h2 k2)
      · rw [jnew] at k2; cases k2
        rw [jold _ _ n1] at k1
        exact absurd hbb (other o1 ob1 e1 n1 (by assumption) k1)
      · rw [jold _ _ n1] at k1
        rw [jold _ _ n2] at k2
        exact r.inj _ _ _ _ _ _ h1 h2 k1 k2 hbb
    · intro ad v k
      have hc := r.im ad v k
      have hbl := World.block_lt_of_cell? _ _ hc
      rw [World.cell?_of_block (w := w) (hfr.block ad.block hbl (fun e2 => by
        rcases hb with hb | hb
        · exact r.sep ad v o ob e k ho he (e2.trans hb)
        · omega))]
      exact hc
    · intro ad v o2 ob2 e2 k h2 k2
      rcases cases' _ _ h2 with ⟨rfl, rfl⟩ | ⟨n2, h2⟩
      · rw [jnew] at k2; cases k2
        intro e2
        rcases hb with hb | hb
        · exact r.sep ad v o2 ob e k ho he (e2.trans hb)
        · have := World.block_lt_of_cell? _ _ (r.im ad v k)
          omega
      · rw [jold _ _ n2] at k2
        exact r.sep _ _ _ _ _ k h2 k2
  refine ⟨hJ, MLe.refl M, hr, by simp, ⟨hfr.os, hfr.tape, hfr.output, hfr.size, fun b hbl hno => hfr.block b hbl (fun e2 => ?_)⟩, fun _ _ k => .inl k, ?_⟩
  · rcases hb with hb | hb
    · exact hno ⟨o, ob, e, ho, he, by rw [e2, hb]⟩
    · omega
  · rintro b ⟨o2, ob2, e2, h2, k2, rfl⟩
    rcases cases' _ _ h2 with ⟨rfl, rfl⟩ | ⟨n2, h2⟩
    · rw [jnew] at k2; cases k2
      rcases hb with hb | hb
      · exact .inl ⟨o2, ob, e, ho, he, hb.symm⟩
      · exact .inr hb
    · rw [jold _ _ n2] at k2
      exact .inl ⟨o2, ob2, e2, h2, k2, rfl⟩
theorem bound_run {v : Value} {i : Int} {y : Nat} {code : BoundsCode} (hv : v = .int .i64 i) (h0 : 0 ≤ i) (h1 : i ≤ y) (w : World) : (Instr.sliceBound v y code).run P w = .ok i.toNat w := by
  subst hv
  simp [Instr.sliceBound, asIntOf, h0, h1]
/-- The bounds of a slice expression with its two bounds, either of which may be left away. -/
theorem run_bounds {len cap : Nat} {lo hi : Option Int} (hlc : len ≤ cap) (h0 : 0 ≤ lo.getD 0) (h1 : lo.getD 0 ≤ hi.getD len) (h2 : hi.getD len ≤ len) (w : World) :
    (Instr.sliceBounds true len cap (lo.map (.int .i64)) (hi.map (.int .i64)) none).run P w = .ok ((lo.getD 0).toNat, (hi.getD len).toNat, cap) w := by
  unfold Instr.sliceBounds
  cases hi with
  | none =>
    cases lo with
    | none => simp
    | some l =>
      simp only [Option.getD_some, Option.getD_none] at h0 h1
      simp [bound_run (P := P) (v := .int .i64 l) rfl h0 h1]
  | some u =>
    simp only [Option.getD_some] at h1 h2
    cases lo with
    | none =>
      simp only [Option.getD_none] at h1
      simp [bound_run (P := P) (v := .int .i64 u) rfl h1 (by omega : u ≤ (cap : Int))]
    | some l =>
      simp only [Option.getD_some] at h0 h1
      simp [bound_run (P := P) (v := .int .i64 u) rfl (by omega) (by omega : u ≤ (cap : Int)), bound_run (P := P) (v := .int .i64 l) (y := u.toNat) rfl h0 (by omega)]
theorem snd_slice {t : TypeId} {x : Operand} {lo hi : Option Operand} {li ui : Option Int} {sz bytes : Nat} {e : TypeId} {K' : AV → Option R} (ho : o.op = .slice t x lo hi none) (he : elemSz P t = some (sz, bytes, e))
    (hlo : ∀ J M (a : Act), a.tmps.size = ts.length → Vs J M ts (fun i => a.tmps[i]?) → lo.map a.eval = li.map (.int .i64)) (hhi : ∀ J M (a : Act), a.tmps.size = ts.length → Vs J M ts (fun i => a.tmps[i]?) → hi.map a.eval = ui.map (.int .i64))
    (hk : slc sz h (aeval ts x) li ui K' = some r) : ∃ v, K' v = some r ∧ OpRes P o ts h v h := by
  obtain ⟨hd, inf, hinf, rfl, _⟩ := elemSz_inv he
  have run : ∀ J M (a : Act) (w : World) (A : Option Addr) (len cap : Nat), a.tmps.size = ts.length → Vs J M ts (fun i => a.tmps[i]?) → a.eval x = .slice A len cap → len ≤ cap → 0 ≤ li.getD 0 → li.getD 0 ≤ ui.getD len → ui.getD len ≤ len →
      (execOp a.eval o).run P w = .ok (.value (.slice (if cap = (li.getD 0).toNat then A else A.map (·.add ((li.getD 0).toNat * inf.size))) ((ui.getD len).toNat - (li.getD 0).toNat) (cap - (li.getD 0).toNat))) w := by
    intro J M a w A len cap hs hv hx hlc h0 h1 h2
    simp only [execOp, ho, hx, hlo J M a hs hv, hhi J M a hs hv, Option.map_none, Instr.sliceAt, Instr.slice, Sem.run_bind, underlying_run hd, Result.andThen_ok, run_bounds (P := P) hlc h0 h1 h2, sizeOf_run hinf, Sem.run_pure]
  unfold slc at hk
  split at hk
  · rename_i ob ver off len hx
    split at hk
    case isFalse => cases hk
    rename_i hb
    obtain ⟨hlive, h0, h1, h2⟩ := hb
    unfold liveA at hlive
    split at hlive
    case h_2 => cases hlive
    rename_i obj hobj
    simp only [decide_eq_true_eq] at hlive
    obtain ⟨hver, hesz⟩ := hlive
    refine ⟨_, hk, OpRes.still fun J M w a hr hs hvs => ?_⟩
    have hV := eval_rel hs hvs x
    rw [hx] at hV
    simp only [V] at hV
    obtain ⟨e', he', ad, cap, hxv, hlc, hcap⟩ := hV
    obtain ⟨e2, _, _, he2, hes, _⟩ := hr.ob _ _ hobj
    rw [hver, he'] at he2
    cases he2
    refine ⟨_, run J M a w _ len cap hs hvs hxv hlc h0 h1 h2, ?_⟩
    simp only [V]
    refine ⟨e', he', ?_⟩
    by_cases hc : cap = (li.getD 0).toNat
    · exact ⟨ad, cap - (li.getD 0).toNat, by simp only [hc, if_true]; congr 1; omega, by omega, .inl (by omega)⟩
    · rcases hcap with hz | ⟨rfl, hroom⟩
      · omega
      · refine ⟨_, cap - (li.getD 0).toNat, by simp only [hc, if_false, Option.map_some, add_none]; congr 1; omega, by omega, .inr ⟨rfl, ?_⟩⟩
        have : (li.getD 0).toNat * e'.esz + (cap - (li.getD 0).toNat) * e'.esz = cap * e'.esz := by rw [← Nat.add_mul]; congr 1; omega
        rw [← hesz, ← hes]
        omega
  · rename_i cs len hx
    split at hk
    case isFalse => cases hk
    rename_i hb
    obtain ⟨h0, h1, h2⟩ := hb
    refine ⟨_, hk, OpRes.still fun J M w a hr hs hvs => ?_⟩
    have hV := eval_rel hs hvs x
    rw [hx] at hV
    simp only [V, VR] at hV
    obtain ⟨ad, cap, hxv, hlc, hcs⟩ := hV
    refine ⟨_, run J M a w _ len cap hs hvs hxv hlc h0 h1 h2, ?_⟩
    simp only [V, VR]
    by_cases hc : cap = (li.getD 0).toNat
    · refine ⟨ad, cap - (li.getD 0).toNat, by simp only [hc, if_true]; congr 1; omega, by omega, VRs_iff.2 fun i z hz => ?_⟩
      have : (ui.getD len - li.getD 0).toNat = 0 := by omega
      rw [this] at hz
      simp at hz
    · refine ⟨_, cap - (li.getD 0).toNat, by simp only [hc, if_false, Option.map_some]; congr 1; omega, by omega, VRs_iff.2 fun i z hz => ?_⟩
      rw [List.getElem?_take] at hz
      split at hz
      case isFalse => cases hz
      rw [List.getElem?_drop] at hz
      obtain ⟨v, hv, hV⟩ := VRs_iff.1 hcs _ _ hz
      exact ⟨v, by rw [add_add]; exact hv, hV⟩
  · rename_i hx
    split at hk
    case isFalse => cases hk
    rename_i hb
    refine ⟨_, hk, OpRes.still fun J M w a hr hs hvs => ?_⟩
    have hV := eval_rel hs hvs x
    rw [hx] at hV
    simp only [V, VR] at hV
    refine ⟨_, run J M a w none 0 0 hs hvs hV (Nat.le_refl _) (by omega) (by rw [hb.1]; simp [hb.2]) (by simp [hb.2]), ?_⟩
    simp [V, VR, hb.1, hb.2]
  · cases hk
end ops
end Go.Proofs.Ytknphnmhjmejaaa
