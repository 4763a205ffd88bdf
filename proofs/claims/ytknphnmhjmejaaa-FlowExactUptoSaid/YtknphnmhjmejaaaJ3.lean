/- Joined texts: AmSd, AmSe, AmSf, AmSg, AmSh. No conditions but those of each. -/
import Derived.Test.YtknphnmhjmejaaaJ2
import Derived.LoopN
import Derived.LoopNIn
import Derived.OrdersIn
import Derived.RangeFuncLeaves
/-  The abstract machine's operations against the model's: slices cut, structs and slices built, append. No conditions. -/
namespace Go.Proofs.Ytknphnmhjmejaaa
set_option linter.unusedVariables false
section ops
variable {P : Program} {Γ : FuncId → Option Callee} {R : Type} {o : Oper} {ts : List AV} {h : Hp} {K Kp : AV → Hp → Option R} {r : R}

def turnJ (J : Jm) (o ver : Nat) (e : JE) : Jm := fun o' q => if o' = o ∧ q = ver then some e else J o' q
/-- The object o is turned: another stamp, other cells, in its block or in a new one. -/
theorem HR.turn {J M h w} (r : HR J M h w) {o : Nat} {ob : Ob} {e e' : JE} (ho : h[o]? = some ob) (he : J o ob.ver = some e) (hes : e'.esz = ob.esz) {cells' : List AV} {c' : Array Value} {t : TypeId} {w' : World}
    (hw : w'.heap[e'.b]? = some (.cells c' t (0, 0))) (hn : c'.size = e'.n) (hl : Vs J M cells' (fun i => c'[i]?)) (hb : e'.b = e.b ∨ w.heap.size ≤ e'.b) (hfr : Fr (fun b => b = e'.b) w w') :
    Stp J M h w (turnJ J o (ob.ver + 1) e') M (h.set o ⟨ob.ver + 1, ob.esz, cells'⟩) w' := by
  have hlt := (List.getElem?_eq_some_iff.1 ho).1
  have elt := owned_lt r ⟨o, ob, e, ho, he, rfl⟩
  have hJ : JLe J (turnJ J o (ob.ver + 1) e') := by
    intro o2 q e2 k
    unfold turnJ
    rw [if_neg]
    · exact k
    · rintro ⟨rfl, rfl⟩
      obtain ⟨ob2, hb2, hle⟩ := r.key _ _ _ k
      rw [ho] at hb2
      cases hb2
      omega
  have cases' : ∀ o2 ob2, (h.set o (⟨ob.ver + 1, ob.esz, cells'⟩ : Ob))[o2]? = some ob2 → (o2 = o ∧ ob2 = ⟨ob.ver + 1, ob.esz, cells'⟩) ∨ (o2 ≠ o ∧ h[o2]? = some ob2) := by
    intro o2 ob2 h2
    rw [List.getElem?_set] at h2
    split at h2
    · rename_i e
      subst e
      simp only [Option.some.injEq] at h2
      exact .inl ⟨rfl, h2.symm⟩
    · rename_i hne; exact .inr ⟨fun e => hne e.symm, h2⟩
  have jnew : (turnJ J o (ob.ver + 1) e') o (ob.ver + 1) = some e' := by simp [turnJ]
  have jold : ∀ o2 ob2, o2 ≠ o → (turnJ J o (ob.ver + 1) e') o2 ob2 = J o2 ob2 := by
    intro o2 q hne
    unfold turnJ
    rw [if_neg (fun k => hne k.1)]
  have other : ∀ o2 ob2 e2, o2 ≠ o → h[o2]? = some ob2 → J o2 ob2.ver = some e2 → e2.b ≠ e'.b := by
    intro o2 ob2 e2 hne h2 k2 hbb
    rcases hb with hb | hb
    · exact hne (r.inj _ _ _ _ _ _ h2 ho k2 he (hbb.trans hb))
    · have := owned_lt r ⟨o2, ob2, e2, h2, k2, rfl⟩
      omega
  have hr : HR (turnJ J o (ob.ver + 1) e') M (h.set o ⟨ob.ver + 1, ob.esz, cells'⟩) w' := by
    refine ⟨?_, ?_, ?_, ?_, ?_⟩
    · intro o2 ob2 h2
      rcases cases' o2 ob2 h2 with ⟨rfl, rfl⟩ | ⟨hne, h2⟩
      · exact .inr ⟨e', c', t, jnew, hes, hw, hn, Vs_mono hJ (MLe.refl M) _ _ _ (fun _ _ k => k) hl⟩
      · rcases r.ob0 o2 ob2 h2 with hd | ⟨e2, c2, t2, he2, hs2, hb2, hn2, hv2⟩
        · exact .inl fun q => by rw [jold _ _ hne]; exact hd q
        refine .inr ⟨e2, c2, t2, by rw [jold _ _ hne]; exact he2, hs2, ?_, hn2, Vs_mono hJ (MLe.refl M) _ _ _ (fun _ _ k => k) hv2⟩
        rw [hfr.block _ (lt_of_cells hb2) (other _ _ _ hne h2 he2)]
        exact hb2
    · intro o2 q e2 k
      unfold turnJ at k
      split at k
      · rename_i hc
        obtain ⟨rfl, rfl⟩ := hc
        exact ⟨⟨ob.ver + 1, ob.esz, cells'⟩, by simp [hlt], Nat.le_refl _⟩
      · obtain ⟨ob2, hb2, hle⟩ := r.key _ _ _ k
        by_cases hne : o2 = o
        · subst hne
          rw [ho] at hb2; cases hb2
          exact ⟨⟨ob.ver + 1, ob.esz, cells'⟩, by simp [hlt], Nat.le_succ_of_le hle⟩
        · exact ⟨ob2, by rw [List.getElem?_set, if_neg (fun e => hne e.symm)]; exact hb2, hle⟩
    · intro o1 o2 ob1 ob2 e1 e2 h1 h2 k1 k2 hbb
      rcases cases' _ _ h1 with ⟨rfl, rfl⟩ | ⟨n1, h1⟩ <;> rcases cases' _ _ h2 with ⟨rfl, rfl⟩ | ⟨n2, h2⟩
      · rfl
      · rw [jnew] at k1; cases k1
        rw [jold _ _ n2] at k2
        exact absurd hbb.symm (other _ _ _ n2 h2 k2)
      · rw [jnew] at k2; cases k2
        rw [jold _ _ n1] at k1
        exact absurd hbb (other o1 ob1 e1 n1 (by assumption) k1)
      · rw [jold _ _ n1] at k1
        rw [jold _ _ n2] at k2
        exact r.inj _ _ _ _ _ _ h1 h2 k1 k2 hbb
    · intro ad v k
      have hc := r.im ad v k
      have hbl := World.block_lt_of_cell? _ _ hc
      rw [World.cell?_of_block (w := w) (hfr.block ad.block hbl (fun e2 => by
        rcases hb with hb | hb
        · exact r.sep ad v o ob e k ho he (e2.trans hb)
        · omega))]
      exact hc
    · intro ad v o2 ob2 e2 k h2 k2
      rcases cases' _ _ h2 with ⟨rfl, rfl⟩ | ⟨n2, h2⟩
      · rw [jnew] at k2; cases k2
        intro e2
        rcases hb with hb | hb
        · exact r.sep ad v o2 ob e k ho he (e2.trans hb)
        · have := World.block_lt_of_cell? _ _ (r.im ad v k)
          omega
      · rw [jold _ _ n2] at k2
        exact r.sep _ _ _ _ _ k h2 k2
  refine ⟨hJ, MLe.refl M, hr, by simp, ⟨hfr.os, hfr.tape, hfr.output, hfr.size, fun b hbl hno => hfr.block b hbl (fun e2 => ?_)⟩, fun _ _ k => .inl k, ?_, fun o2 q e2 k => ?_⟩
  · rcases hb with hb | hb
    · exact hno ⟨o, ob, e, ho, he, by rw [e2, hb]⟩
    · omega
  · rintro b ⟨o2, ob2, e2, h2, k2, rfl⟩
    rcases cases' _ _ h2 with ⟨rfl, rfl⟩ | ⟨n2, h2⟩
    · rw [jnew] at k2; cases k2
      rcases hb with hb | hb
      · exact .inl ⟨o2, ob, e, ho, he, hb.symm⟩
      · exact .inr hb
    · rw [jold _ _ n2] at k2
      exact .inl ⟨o2, ob2, e2, h2, k2, rfl⟩
  · by_cases hne : o2 = o
    · subst hne
      exact .inr ⟨_, _, he⟩
    · rw [jold _ _ hne] at k
      exact .inr ⟨_, _, k⟩
theorem bound_run {v : Value} {i : Int} {y : Nat} {code : BoundsCode} (hv : v = .int .i64 i) (h0 : 0 ≤ i) (h1 : i ≤ y) (w : World) : (Instr.sliceBound v y code).run P w = .ok i.toNat w := by
  subst hv
  simp [Instr.sliceBound, asIntOf, h0, h1]
/-- The bounds of a slice expression with its two bounds, either of which may be left away. -/
theorem run_bounds {len cap : Nat} {lo hi : Option Int} (hlc : len ≤ cap) (h0 : 0 ≤ lo.getD 0) (h1 : lo.getD 0 ≤ hi.getD len) (h2 : hi.getD len ≤ len) (w : World) :
    (Instr.sliceBounds true len cap (lo.map (.int .i64)) (hi.map (.int .i64)) none).run P w = .ok ((lo.getD 0).toNat, (hi.getD len).toNat, cap) w := by
  unfold Instr.sliceBounds
  cases hi with
  | none =>
    cases lo with
    | none => simp
    | some l =>
      simp only [Option.getD_some, Option.getD_none] at h0 h1
      simp [bound_run (P := P) (v := .int .i64 l) rfl h0 h1]
  | some u =>
    simp only [Option.getD_some] at h1 h2
    cases lo with
    | none =>
      simp only [Option.getD_none] at h1
      simp [bound_run (P := P) (v := .int .i64 u) rfl h1 (by omega : u ≤ (cap : Int))]
    | some l =>
      simp only [Option.getD_some] at h0 h1
      simp [bound_run (P := P) (v := .int .i64 u) rfl (by omega) (by omega : u ≤ (cap : Int)), bound_run (P := P) (v := .int .i64 l) (y := u.toNat) rfl h0 (by omega)]
theorem snd_slice {t : TypeId} {x : Operand} {lo hi : Option Operand} {li ui : Option Int} {sz bytes : Nat} {e : TypeId} {K' : AV → Option R} (ho : o.op = .slice t x lo hi none) (he : elemSz P t = some (sz, bytes, e))
    (hlo : ∀ J M (a : Act), a.tmps.size = ts.length → Vs J M ts (fun i => a.tmps[i]?) → lo.map a.eval = li.map (.int .i64)) (hhi : ∀ J M (a : Act), a.tmps.size = ts.length → Vs J M ts (fun i => a.tmps[i]?) → hi.map a.eval = ui.map (.int .i64))
    (hk : slc sz h (aeval ts x) li ui K' = some r) : ∃ v, K' v = some r ∧ OpRes P o ts h v h := by
  obtain ⟨hd, inf, hinf, rfl, _⟩ := elemSz_inv he
  have run : ∀ J M (a : Act) (w : World) (A : Option Addr) (len cap : Nat), a.tmps.size = ts.length → Vs J M ts (fun i => a.tmps[i]?) → a.eval x = .slice A len cap → len ≤ cap → 0 ≤ li.getD 0 → li.getD 0 ≤ ui.getD len → ui.getD len ≤ len →
      (execOp a.eval o).run P w = .ok (.value (.slice (if cap = (li.getD 0).toNat then A else A.map (·.add ((li.getD 0).toNat * inf.size))) ((ui.getD len).toNat - (li.getD 0).toNat) (cap - (li.getD 0).toNat))) w := by
    intro J M a w A len cap hs hv hx hlc h0 h1 h2
    simp only [execOp, ho, hx, hlo J M a hs hv, hhi J M a hs hv, Option.map_none, Instr.sliceAt, Instr.slice, Sem.run_bind, underlying_run hd, Result.andThen_ok, run_bounds (P := P) hlc h0 h1 h2, sizeOf_run hinf, Sem.run_pure]
  unfold slc at hk
  split at hk
  · rename_i ob ver off len hx
    split at hk
    case isFalse => cases hk
    rename_i hb
    obtain ⟨hlive, h0, h1, h2⟩ := hb
    unfold liveA at hlive
    split at hlive
    case h_2 => cases hlive
    rename_i obj hobj
    simp only [decide_eq_true_eq] at hlive
    obtain ⟨hver, hesz⟩ := hlive
    refine ⟨_, hk, OpRes.still fun J M w a hr hs hvs => ?_⟩
    have hV := eval_rel hs hvs x
    rw [hx] at hV
    simp only [V] at hV
    obtain ⟨e', he', ad, cap, hxv, hlc, hcap⟩ := hV
    obtain ⟨e2, _, _, he2, hes, _⟩ := hr.ob _ _ hobj he'
    rw [hver, he'] at he2
    cases he2
    refine ⟨_, run J M a w _ len cap hs hvs hxv hlc h0 h1 h2, ?_⟩
    simp only [V]
    refine ⟨e', he', ?_⟩
    by_cases hc : cap = (li.getD 0).toNat
    · exact ⟨ad, cap - (li.getD 0).toNat, by simp only [hc, if_true]; congr 1; omega, by omega, .inl (by omega)⟩
    · rcases hcap with hz | ⟨rfl, hroom⟩
      · omega
      · refine ⟨_, cap - (li.getD 0).toNat, by simp only [hc, if_false, Option.map_some, add_none]; congr 1; omega, by omega, .inr ⟨rfl, ?_⟩⟩
        have : (li.getD 0).toNat * e'.esz + (cap - (li.getD 0).toNat) * e'.esz = cap * e'.esz := by rw [← Nat.add_mul]; congr 1; omega
        rw [← hesz, ← hes]
        omega
  · rename_i cs len hx
    split at hk
    case isFalse => cases hk
    rename_i hb
    obtain ⟨h0, h1, h2⟩ := hb
    refine ⟨_, hk, OpRes.still fun J M w a hr hs hvs => ?_⟩
    have hV := eval_rel hs hvs x
    rw [hx] at hV
    simp only [V, VR] at hV
    obtain ⟨ad, cap, hxv, hlc, hcs⟩ := hV
    refine ⟨_, run J M a w _ len cap hs hvs hxv hlc h0 h1 h2, ?_⟩
    simp only [V, VR]
    by_cases hc : cap = (li.getD 0).toNat
    · refine ⟨ad, cap - (li.getD 0).toNat, by simp only [hc, if_true]; congr 1; omega, by omega, VRs_iff.2 fun i z hz => ?_⟩
      have : (ui.getD len - li.getD 0).toNat = 0 := by omega
      rw [this] at hz
      simp at hz
    · refine ⟨_, cap - (li.getD 0).toNat, by simp only [hc, if_false, Option.map_some]; congr 1; omega, by omega, VRs_iff.2 fun i z hz => ?_⟩
      rw [List.getElem?_take] at hz
      split at hz
      case isFalse => cases hz
      rw [List.getElem?_drop] at hz
      obtain ⟨v, hv, hV⟩ := VRs_iff.1 hcs _ _ hz
      exact ⟨v, by rw [add_add]; exact hv, hV⟩
  · rename_i hx
    split at hk
    case isFalse => cases hk
    rename_i hb
    refine ⟨_, hk, OpRes.still fun J M w a hr hs hvs => ?_⟩
    have hV := eval_rel hs hvs x
    rw [hx] at hV
    simp only [V, VR] at hV
    refine ⟨_, run J M a w none 0 0 hs hvs hV (Nat.le_refl _) (by omega) (by rw [hb.1]; simp [hb.2]) (by simp [hb.2]), ?_⟩
    simp [V, VR, hb.1, hb.2]
  · cases hk
end ops
end Go.Proofs.Ytknphnmhjmejaaa
/-  The abstract machine's operations against the model's: structs and slices built, append. No conditions. -/
namespace Go.Proofs.Ytknphnmhjmejaaa
set_option linter.unusedVariables false
section ops
variable {P : Program} {Γ : FuncId → Option Callee} {R : Type} {o : Oper} {ts : List AV} {h : Hp} {K Kp : AV → Hp → Option R} {r : R}

/-! ### Parts laid into cells -/
theorem setIn_sound {J M} : ∀ (vs : List Value) (cs : List AV) (off i : Nat) (l : List AV) (c : Array Value), vs.length = cs.length → Vs J M cs (fun i => vs[i]?) → off + i + cs.length ≤ l.length → l.length ≤ c.size → Vs J M l (fun i => c[i]?) →
    Vs J M (setAt l (off + i) cs) (fun k => ((vs.zipIdx i).foldl (fun a (x : Value × Nat) => a.setIfInBounds (off + x.2) x.1) c)[k]?) ∧ ((vs.zipIdx i).foldl (fun a (x : Value × Nat) => a.setIfInBounds (off + x.2) x.1) c).size = c.size
  | [], cs, off, i, l, c, hlen, _, _, _, hl => by
    cases cs with
    | nil => exact ⟨by simpa [setAt] using hl, by simp⟩
    | cons => simp at hlen
  | v :: vs, cs, off, i, l, c, hlen, hcs, hle, hlc, hl => by
    cases cs with
    | nil => simp at hlen
    | cons x cs =>
      simp only [Vs] at hcs
      obtain ⟨⟨v0, hv0, hV0⟩, hrest⟩ := hcs
      simp only [List.getElem?_cons_zero, Option.some.injEq] at hv0
      subst hv0
      simp only [List.length_cons] at hle
      have hV1 : Vs J M (l.set (off + i) x) (fun j => (c.setIfInBounds (off + i) v)[j]?) := by
        refine Vs_iff.2 fun j y hy => ?_
        rw [List.getElem?_set] at hy
        by_cases hj : off + i = j
        · subst hj
          rw [if_pos rfl, if_pos (by omega)] at hy
          cases hy
          have hc : off + i < c.size := by omega
          exact ⟨v, by simp [hc], hV0⟩
        · rw [if_neg hj] at hy
          obtain ⟨u, hu, hU⟩ := Vs_iff.1 hl _ _ hy
          exact ⟨u, by rw [Array.getElem?_setIfInBounds_ne hj]; exact hu, hU⟩
      obtain ⟨h1, h2⟩ := setIn_sound vs cs off (i + 1) (l.set (off + i) x) (c.setIfInBounds (off + i) v) (by simpa using hlen) (by simpa using hrest) (by simp; omega) (by simpa using hlc) hV1
      simp only [List.zipIdx_cons, List.foldl_cons, setAt]
      rw [Nat.add_assoc]
      exact ⟨h1, by rw [h2]; simp⟩
theorem fill_sound {J M} (place : Nat → Option (Nat × Nat)) : ∀ (ps : List (Nat × Operand)) (a : Act) (l l' : List AV) (c : Array Value), (∀ x, V J M (aeval ts x) (a.eval x)) → l.length = c.size → Vs J M l (fun i => c[i]?) →
    fillA l (ps.map fun p => (place p.1, aeval ts p.2)) = some l' → ∃ c', Instr.fill place c (ps.map fun p => (p.1, a.eval p.2)) = some c' ∧ l'.length = c'.size ∧ Vs J M l' (fun i => c'[i]?)
  | [], a, l, l', c, hx, hlc, hl, hf => by
    simp only [List.map_nil, fillA, Option.some.injEq] at hf
    subst hf
    exact ⟨c, by simp [Instr.fill], hlc, hl⟩
  | p :: ps, a, l, l', c, hx, hlc, hl, hf => by
    simp only [List.map_cons, fillA] at hf
    split at hf
    case h_1 => cases hf
    rename_i off size hpl
    split at hf
    case h_1 => cases hf
    rename_i cs hcs
    split at hf
    case isFalse => cases hf
    rename_i hcond
    obtain ⟨hlen, hle⟩ := hcond
    obtain ⟨hsz, hcv⟩ := vcells_sound (hx p.2) hcs
    obtain ⟨h1, h2⟩ := setIn_sound (J := J) (M := M) (a.eval p.2).cells.toList cs off 0 l c (by simp [hsz]) (by simpa using hcv) (by omega) (by omega) hl
    obtain ⟨c', hc', h3, h4⟩ := fill_sound place ps a (setAt l off cs) l' _ hx (by rw [setAt_length, h2]; exact hlc) (by simpa using h1) hf
    refine ⟨c', ?_, h3, h4⟩
    simp only [List.map_cons, Instr.fill, hpl]
    have hne : ((a.eval p.2).cells.size ≠ size || off + (a.eval p.2).cells.size > c.size) = false := by
      simp only [ne_eq, Bool.or_eq_false_iff, decide_eq_false_iff_not]
      omega
    rw [if_neg (by simpa using hne)]
    rw [← hc']
    congr 1
    rw [← Array.foldl_toList, Array.toList_zipIdx]
theorem run_mapM_list {α β : Type} (f : α → Sem β) (g : α → β) : ∀ (l : List α) (w : World), (∀ x ∈ l, ∀ w, (f x).run P w = .ok (g x) w) → (l.mapM f).run P w = .ok (l.map g) w
  | [], w, _ => by simp
  | x :: l, w, hf => by
    simp only [List.mapM_cons, Sem.run_bind, hf x (List.mem_cons_self ..), Result.andThen_ok, run_mapM_list f g l w (fun y hy => hf y (List.mem_cons_of_mem _ hy)), List.map_cons, Sem.run_pure]
theorem run_mapM_arr {α β : Type} (f : α → Sem β) (g : α → β) (l : Array α) (w : World) (hf : ∀ x ∈ l.toList, ∀ w, (f x).run P w = .ok (g x) w) : (l.mapM f).run P w = .ok (l.map g) w := by
  rw [Array.mapM_eq_mapM_toList]
  simp only [Sem.run_map, run_mapM_list f g l.toList w hf, Result.andThen_ok]
  congr 1
  apply Array.ext'
  simp
theorem snd_build {t : TypeId} {parts : Array (Nat × Operand)} {fs : Array Field} {z : List AV} {K' : AV → Option R} (ho : o.op = .build t parts) (hd : P.underlying t = some (.struct fs)) (hz : zeroA P t = some z)
    (hall : (fs.toList.all fun f => (P.info? f.type).isSome) = true) (hk : bld z (parts.toList.map fun p => ((fs[p.1]?).map fun f => (f.offset, P.cellsOf f.type), aeval ts p.2)) K' = some r) : ∃ v, K' v = some r ∧ OpRes P o ts h v h := by
  unfold bld at hk
  split at hk
  case h_2 => cases hk
  rename_i cs hcs
  obtain ⟨inf, zv, hinf, hzv, rfl⟩ := zeroA_inv hz
  refine ⟨_, hk, OpRes.still fun J M w a hr hs hvs => ?_⟩
  have hpl : ∀ i : Nat, (fs.map fun (f : Field) => (f.offset, P.cellsOf f.type))[i]? = (fs[i]?).map fun f => (f.offset, P.cellsOf f.type) := fun i => by simp
  obtain ⟨c', hc', hlen, hV⟩ := fill_sound (ts := ts) (J := J) (M := M) (fun i => (fs.map fun (f : Field) => (f.offset, P.cellsOf f.type))[i]?) parts.toList a _ cs zv.cells (fun x => eval_rel hs hvs x) (by simp) (Vs_zero _) (by simpa only [hpl] using hcs)
  refine ⟨.agg c', ?_, by simp only [V]; exact ⟨_, rfl, hlen.symm, hV⟩⟩
  have hm : (fs.mapM fun (f : Field) => (do pure (f.offset, ← sizeOf f.type) : Sem (Nat × Nat))).run P w = .ok (fs.map fun (f : Field) => (f.offset, P.cellsOf f.type)) w := by
    refine run_mapM_arr _ (fun (f : Field) => (f.offset, P.cellsOf f.type)) fs w fun f hf w => ?_
    obtain ⟨i, hi⟩ := Option.isSome_iff_exists.1 (List.all_eq_true.1 hall f hf)
    simp [sizeOf_run hi, cellsOf_eq hi]
  have hparts : (parts.map fun x => (x.1, a.eval x.2)).toList = parts.toList.map fun p => (p.1, a.eval p.2) := by simp
  simp only [execOp, ho, Instr.build, Sem.run_bind, run_zeroValue hinf hzv, Result.andThen_ok, underlying_run hd, hm, hparts, hc', Sem.run_pure]
theorem snd_buildSlice {t e : TypeId} {len sz bytes : Nat} {parts : Array (Nat × Operand)} {z : List AV} (ho : o.op = .buildSlice t len parts) (he : elemSz P t = some (sz, bytes, e)) (hz : zeroE P e sz = some z) (hl : len * sz ≤ 16777216)
    (hk : bsl sz len z (parts.toList.map fun p => (some (p.1 * sz, sz), aeval ts p.2)) h K = some r) : ∃ v h', K v h' = some r ∧ OpRes P o ts h v h' := by
  unfold bsl at hk
  split at hk
  case h_2 => cases hk
  rename_i cs hcs
  refine ⟨_, _, hk, ?_⟩
  obtain ⟨hd, inf, hi, rfl, _⟩ := elemSz_inv he
  obtain ⟨hza, hzl, hz1⟩ := zeroE_inv hz
  obtain ⟨i2, zz, hi2, hzz, rfl⟩ := zeroA_inv hza
  rw [hi] at hi2
  cases hi2
  simp only [List.length_map, Array.length_toList] at hzl
  refine OpRes.new (.inr ⟨len, rfl⟩) fun J M w a hr hs hvs => ?_
  have hv0 := Vs_made (J := J) (M := M) zz.cells (by omega) len len (Nat.le_refl _)
  have hl0 : (zrep (zz.cells.toList.map ofVal) len).length = ((Array.range (len * zz.cells.size)).map (zz.cells[· % zz.cells.size]!)).size := by
    simp [zrep]
  obtain ⟨c', hc', hlen, hV⟩ := fill_sound (ts := ts) (J := J) (M := M) (fun i => some (i * inf.size, inf.size)) parts.toList a _ cs _ (fun x => eval_rel hs hvs x) hl0 hv0 hcs
  refine ⟨c', e, hV, .inr ⟨len, len, rfl, Nat.le_refl _, ?_, ?_⟩⟩
  · have h1 : ∀ (ps : List (Option (Nat × Nat) × AV)) (l l' : List AV), fillA l ps = some l' → l'.length = l.length := by
      intro ps
      induction ps with
      | nil => intro l l' hf; simp only [fillA, Option.some.injEq] at hf; rw [hf]
      | cons p ps ih =>
        intro l l' hf
        simp only [fillA] at hf
        split at hf
        case h_1 => cases hf
        split at hf
        case h_1 => cases hf
        split at hf
        case isFalse => cases hf
        rw [ih _ _ hf, setAt_length]
    rw [← hlen, h1 _ _ _ hcs, hl0]
    simp [hzl]
  · have hparts : (parts.map fun x => (x.1, a.eval x.2)).toList = parts.toList.map fun p => (p.1, a.eval p.2) := by simp
    by_cases hz0 : len * inf.size = 0
    · have hl0' : len = 0 := by rcases Nat.mul_eq_zero.1 hz0 with h | h <;> omega
      subst hl0'
      simp only [Nat.zero_mul] at hc'
      have hc2 : Instr.fill (fun i => some (i * inf.size, inf.size)) ((Array.range 0).map (fun x => (#[] : Array Value)[x % (#[] : Array Value).size]!)) (parts.toList.map fun p => (p.1, a.eval p.2)) = some c' := by
        rw [← hc', show Array.range 0 = (#[] : Array Nat) from rfl]
        simp
      simp only [execOp, ho, Instr.buildSlice, Sem.run_bind, underlying_run hd, Result.andThen_ok, sizeOf_run hi, Nat.zero_mul, gt_iff_lt, Nat.not_lt_zero, if_false, if_true, Sem.run_pure, hparts, hc2, newRow]
      simp
    · have hng : ¬ (len * inf.size > 2 ^ 24) := by omega
      rw [hzl] at hc'
      simp only [execOp, ho, Instr.buildSlice, Sem.run_bind, underlying_run hd, Result.andThen_ok, sizeOf_run hi, hng, if_false, hz0, run_zeroValue hi hzz, Sem.run_pure, hparts, hzl, hc', newRow]
      simp

/-! ### append -/
theorem wcells_sound {J M w} (hr : HR J M h w) {x : AV} {v : Value} (hV : V J M x v) {esz n : Nat} {new : List AV} (hw : wcells esz h x = some (n, new)) :
    new.length = n * esz ∧ ∃ A len cap, v = .slice A len cap ∧ len = n ∧ ∃ c : List Value, c.length = n * esz ∧ (∀ wd, (∀ a u, w.cell? a = some u → wd.cell? a = some u) → (Builtin.firstCells esz n v).run P wd = .ok c.toArray wd) ∧ Vs J M new (fun i => c[i]?) := by
  unfold wcells at hw
  split at hw
  · simp only [Option.some.injEq, Prod.mk.injEq] at hw
    obtain ⟨rfl, rfl⟩ := hw
    simp only [V, VR] at hV
    subst hV
    exact ⟨by simp, none, 0, 0, rfl, rfl, [], by simp, fun wd _ => by simp [Builtin.firstCells], by simp [Vs]⟩
  · rename_i cs len
    split at hw
    case isFalse => cases hw
    rename_i hle
    simp only [Option.some.injEq, Prod.mk.injEq] at hw
    obtain ⟨rfl, rfl⟩ := hw
    simp only [V, VR] at hV
    obtain ⟨a, cap, rfl, hlc, hs⟩ := hV
    have hch : ∃ c : List Value, c.length = len * esz ∧ ∀ i, i < len * esz → ∃ v x, c[i]? = some v ∧ cs[i]? = some x ∧ M (a.add i) = some v ∧ VR M x v := by
      have : ∀ m, m ≤ len * esz → ∃ c : List Value, c.length = m ∧ ∀ i, i < m → ∃ v x, c[i]? = some v ∧ cs[i]? = some x ∧ M (a.add i) = some v ∧ VR M x v := by
        intro m
        induction m with
        | zero => exact fun _ => ⟨[], rfl, fun i hi => by omega⟩
        | succ m ih =>
          intro hm
          obtain ⟨c, hc, hcs⟩ := ih (by omega)
          have hx : cs[m]? = some cs[m] := List.getElem?_eq_getElem (by omega)
          obtain ⟨v, hv, hV⟩ := VRs_iff.1 hs _ _ hx
          refine ⟨c ++ [v], by simp [hc], fun i hi => ?_⟩
          by_cases him : i < m
          · obtain ⟨v', x', h1, h2, h3, h4⟩ := hcs i him
            exact ⟨v', x', by rw [List.getElem?_append_left (by omega)]; exact h1, h2, h3, h4⟩
          · have : i = m := by omega
            subst this
            exact ⟨v, _, by simp [← hc], hx, hv, hV⟩
      exact this _ (Nat.le_refl _)
    obtain ⟨c, hc, hcs⟩ := hch
    refine ⟨by simp; omega, some a, len, cap, rfl, rfl, c, hc, fun wd hwd => ?_, Vs_iff.2 fun i x hx => ?_⟩
    · refine run_firstCells_some (P := P) (w := wd) esz len a len cap c hc fun j v hj => ?_
      have hlt : j < len * esz := by rw [← hc]; exact (List.getElem?_eq_some_iff.1 hj).1
      obtain ⟨v', x', h1, _, h3, _⟩ := hcs j hlt
      rw [hj] at h1
      cases h1
      exact hwd _ _ (hr.im _ _ h3)
    · rw [List.getElem?_map, List.getElem?_take, Option.map_eq_some_iff] at hx
      obtain ⟨y, hy, rfl⟩ := hx
      split at hy
      case isFalse => cases hy
      rename_i hlt
      obtain ⟨v', x', h1, h2, _, h4⟩ := hcs i hlt
      rw [hy] at h2
      cases h2
      exact ⟨v', h1, by simpa only [V] using h4⟩
  · rename_i ob ver off len
    split at hw
    case h_2 => cases hw
    rename_i obj hobj
    split at hw
    case isFalse => cases hw
    rename_i hcond
    obtain ⟨hver, hle⟩ := hcond
    simp only [Option.some.injEq, Prod.mk.injEq] at hw
    obtain ⟨rfl, rfl⟩ := hw
    simp only [V] at hV
    obtain ⟨e, he, a, cap, rfl, hlc, hcap⟩ := hV
    obtain ⟨e2, cb, t, he2, hes, hb, hn, hcv⟩ := hr.ob _ _ hobj he
    rw [hver, he] at he2
    cases he2
    have hcs : ∀ i, i < len * esz → off + i < cb.size := by
      intro i hi
      obtain ⟨u, hu, _⟩ := Vs_iff.1 hcv (off + i) _ (List.getElem?_eq_getElem (by omega))
      exact (Array.getElem?_eq_some_iff.1 hu).1
    have hsz : off + len * esz ≤ cb.size ∨ len * esz = 0 := by
      rcases Nat.eq_zero_or_pos (len * esz) with h0 | h0
      · exact .inr h0
      · have := hcs (len * esz - 1) (by omega); omega
    refine ⟨by simp; omega, some a, len, cap, rfl, rfl, (cb.toList.drop off).take (len * esz), by simp; omega, fun wd hwd => ?_, Vs_iff.2 fun i x hx => ?_⟩
    · refine run_firstCells_some (P := P) (w := wd) esz len a len cap _ (by simp; omega) fun j v hj => ?_
      rw [List.getElem?_take] at hj
      split at hj
      case isFalse => cases hj
      rename_i hlt
      rw [List.getElem?_drop] at hj
      rcases hcap with h0 | ⟨rfl, _⟩
      · have : len = 0 := by omega
        subst this
        simp at hlt
      · refine hwd _ _ ?_
        rw [add_none, cell_of_cells hb]
        simpa using hj
    · rw [List.getElem?_take] at hx
      split at hx
      case isFalse => cases hx
      rename_i hlt
      rw [List.getElem?_drop] at hx
      obtain ⟨u, hu, hU⟩ := Vs_iff.1 hcv _ _ hx
      refine ⟨u, ?_, hU⟩
      rw [List.getElem?_take, if_pos hlt, List.getElem?_drop]
      simpa using hu
  · cases hw
theorem setAt_app : ∀ (zs xs ys : List AV), ys.length = zs.length → setAt (xs ++ ys) xs.length zs = xs ++ zs
  | [], xs, ys, hl => by simp at hl; subst hl; simp [setAt]
  | z :: zs, xs, ys, hl => by
    cases ys with
    | nil => simp at hl
    | cons y ys =>
      simp only [setAt]
      have e1 : (xs ++ y :: ys).set xs.length z = (xs ++ [z]) ++ ys := by simp
      rw [e1]
      have := setAt_app zs (xs ++ [z]) ys (by simpa using hl)
      simp only [List.length_append, List.length_singleton] at this
      rw [this]
      simp
theorem Vs_append {J M} {xs ys : List AV} {c d : List Value} (hc : c.length = xs.length) (h1 : Vs J M xs (fun i => c[i]?)) (h2 : Vs J M ys (fun i => d[i]?)) : Vs J M (xs ++ ys) (fun i => (c ++ d)[i]?) := by
  refine Vs_iff.2 fun i x hx => ?_
  by_cases hi : i < xs.length
  · rw [List.getElem?_append_left hi] at hx
    obtain ⟨v, hv, hV⟩ := Vs_iff.1 h1 _ _ hx
    exact ⟨v, by rw [List.getElem?_append_left (by omega)]; exact hv, hV⟩
  · rw [List.getElem?_append_right (by omega)] at hx
    obtain ⟨v, hv, hV⟩ := Vs_iff.1 h2 _ _ hx
    exact ⟨v, by rw [List.getElem?_append_right (by omega), hc]; exact hv, hV⟩
/-- append where there is no room: a new row. -/
theorem run_append_new {t u ty e : TypeId} {esz bytes : Nat} {z : List AV} (he : elemSz P t = some (esz, bytes, e)) (hz : zeroE P e esz = some z) (hu : ∃ e, P.underlying u = some (.slice e))
    {A : Option Addr} {sl sc n : Nat} {x : Value} {xa : Option Addr} {xc : Nat} (hx : x = .slice xa n xc) (hns : sc < sl + n) (hroom : ((sl + n : Nat) : Int) ≤ room) (hb : bytes * ((sl + n : Nat) : Int) ≤ room)
    {olds news : List Value} (w : World) (ho : (Builtin.firstCells esz sl (.slice A sl sc)).run P w.drew = .ok olds.toArray w.drew) (hn : (Builtin.firstCells esz n x).run P w.drew = .ok news.toArray w.drew) (hol : olds.length = sl * esz) (hnl : news.length = n * esz) :
    ∃ (cap : Nat) (c : Array Value), sl + n ≤ cap ∧ cap * esz ≤ c.size ∧ (∀ (i : Nat) (v : Value), (olds ++ news)[i]? = some v → c[i]? = some v) ∧
      (Builtin.append_ #[t, u] ty #[.slice A sl sc, x]).run P w = .ok (.slice (some ⟨w.heap.size, 0, none⟩) (sl + n) cap) (w.drew.alloc (.cells c e)) := by
  obtain ⟨hd, inf, hi, rfl, rfl⟩ := elemSz_inv he
  obtain ⟨hza, hzl, hz1⟩ := zeroE_inv hz
  obtain ⟨i2, zz, hi2, hzz, rfl⟩ := zeroA_inv hza
  rw [hi] at hi2
  cases hi2
  simp only [List.length_map, Array.length_toList] at hzl
  obtain ⟨eu, hu⟩ := hu
  unfold room at hroom hb
  have hneed : ¬ (sl + n ≤ sc) := by omega
  have hbn : (sl + n) * inf.bytes ≤ 140737488355328 := by
    have : ((inf.bytes * (sl + n) : Nat) : Int) ≤ 140737488355328 := by push_cast; push_cast at hb; exact hb
    have h2 : inf.bytes * (sl + n) ≤ 140737488355328 := by omega
    rwa [Nat.mul_comm]
  have hfit := growslice_fits hns hbn
  have hfit' : ¬ (Builtin.nextslicecap (sl + n) sc * inf.bytes > 2 ^ 48) := by omega
  have hmax : ¬ ((((sl + n : Nat) : Int) > IntKind.i64.max) ∧ (false = true ∨ inf.bytes = 0)) := by
    rintro ⟨h1, _⟩
    have : IntKind.i64.max = 9223372036854775807 := by decide
    omega
  refine ⟨(Question.appendCap (sl + n) sc e).cut (w.tape w.drawn (.appendCap (sl + n) sc e)), (olds ++ news).toArray ++ Builtin.zeroCells zz.cells ((Question.appendCap (sl + n) sc e).cut (w.tape w.drawn (.appendCap (sl + n) sc e)) - (sl + n)), ?_, ?_, ?_, ?_⟩
  · simp [Question.cut]
  · have hcut : sl + n ≤ (Question.appendCap (sl + n) sc e).cut (w.tape w.drawn (.appendCap (sl + n) sc e)) := by simp [Question.cut]
    generalize (Question.appendCap (sl + n) sc e).cut (w.tape w.drawn (.appendCap (sl + n) sc e)) = cap at hcut
    simp only [Array.size_append, List.size_toArray, List.length_append, hol, hnl, Builtin.zeroCells, Array.size_map, Array.size_range, hzl]
    have : (cap - (sl + n)) * inf.size + (sl + n) * inf.size = cap * inf.size := by rw [← Nat.add_mul]; congr 1; omega
    have h2 : (sl + n) * inf.size = sl * inf.size + n * inf.size := Nat.add_mul ..
    omega
  · intro i v hv
    have hlt : i < (olds ++ news).length := (List.getElem?_eq_some_iff.1 hv).1
    rw [Array.getElem?_append_left (by simpa using hlt)]
    simpa using hv
  · subst hx
    have hforced : (Question.appendCap (sl + n) sc e).forced = false := rfl
    have hm2 : ¬ ((9223372036854775807 : Int) < (sl : Int) + (n : Int) ∧ inf.bytes = 0) := by
      rintro ⟨h1, _⟩
      omega
    have hfit2 : ¬ (281474976710656 < Builtin.nextslicecap (sl + n) sc * inf.bytes) := by omega
    simp [Builtin.append_, underlying_run hd, sizeOf_run hi, underlying_run hu, Builtin.lenOf, hneed, typeInfo, hi, hm2, hfit2, hforced, ho, hn, run_zeroValue hi hzz, newRow]
    congr 2
    apply Array.ext'
    simp
theorem run_append_fit {t u ty e : TypeId} {esz bytes : Nat} (he : elemSz P t = some (esz, bytes, e)) (hu : ∃ e, P.underlying u = some (.slice e))
    {A : Option Addr} {sl sc n : Nat} {x : Value} {xa : Option Addr} {xc : Nat} (hx : x = .slice xa n xc) (hns : sl + n ≤ sc) {news : List Value} (w : World) (hn : (Builtin.firstCells esz n x).run P w = .ok news.toArray w) :
    (Builtin.append_ #[t, u] ty #[.slice A sl sc, x]).run P w = (match A with
      | some a => ((storeCells (a.add (sl * esz)) news).run P w).andThen fun _ w => .ok (.slice A (sl + n) sc) w
      | none => .ok (.slice A (sl + n) sc) w) := by
  obtain ⟨hd, inf, hi, rfl, rfl⟩ := elemSz_inv he
  obtain ⟨eu, hu⟩ := hu
  subst hx
  cases A <;> simp [Builtin.append_, underlying_run hd, sizeOf_run hi, underlying_run hu, Builtin.lenOf, hns, hn]
theorem snd_append {x y : Operand} {t u e : TypeId} {esz bytes : Nat} {c : Call} (ho : o.op = .call c) (hc : c.callee = .builtin .append) (ha : c.args.toList = [x, y]) (hct : c.argTypes.toList = [t, u])
    (he : elemSz P t = some (esz, bytes, e)) (hu : ∃ e, P.underlying u = some (.slice e)) (hz : (zeroE P e esz).isSome = true) (hk : apn esz bytes h (aeval ts x) (aeval ts y) K = some r) : ∃ v h', K v h' = some r ∧ OpRes P o ts h v h' := by
  obtain ⟨z, hz⟩ := Option.isSome_iff_exists.1 hz
  have hargs : c.args = #[x, y] := by rw [← c.args.toArray_toList, ha]
  have hats : c.argTypes = #[t, u] := by rw [← c.argTypes.toArray_toList, hct]
  have run : ∀ (a : Act) (w : World), (execOp a.eval o).run P w = ((Builtin.append_ #[t, u] o.type #[a.eval x, a.eval y]).run P w).andThen fun v w => .ok (.value v) w := by
    intro a w
    simp [execOp, ho, resolve, hc, invoke, builtin, hargs, hats]
  unfold apn at hk
  split at hk
  case h_1 => cases hk
  rename_i n new hwc
  split at hk
  · rename_i hx
    split at hk
    · rename_i hn0
      subst hn0
      refine ⟨_, _, hk, OpRes.still fun J M w a hr hs hvs => ⟨.slice none 0 0, ?_, by simp only [V, VR]⟩⟩
      have hX := eval_rel hs hvs x
      rw [hx] at hX
      simp only [V, VR] at hX
      obtain ⟨hnl, A, len, cap, hy, hlen, cl, hcl, hfirst, hcV⟩ := wcells_sound (P := P) hr (eval_rel hs hvs y) hwc
      subst hlen
      rw [run, hX, run_append_fit (P := P) (A := none) (sl := 0) (sc := 0) he hu hy (Nat.le_refl _) w (hfirst w fun _ _ k => k)]
      rfl
    · rename_i hn0
      split at hk
      case isFalse => cases hk
      rename_i hcond
      obtain ⟨hroom, hb, hone⟩ := hcond
      refine ⟨_, _, hk, ?_⟩
      intro J M w a hr hs hvs next Q hnext
      have hX := eval_rel hs hvs x
      rw [hx] at hX
      simp only [V, VR] at hX
      obtain ⟨hnl, A, len, cap, hy, hlen, cl, hcl, hfirst, hcV⟩ := wcells_sound (P := P) hr (eval_rel hs hvs y) hwc
      subst hlen
      obtain ⟨cap2, cc, h1, h2, h3, h4⟩ := run_append_new (P := P) (ty := o.type) he hz hu (A := none) (sl := 0) (sc := 0) (n := len) hy (by omega) (by simpa using hroom) (by simpa using hb) (olds := []) (news := cl) w
        (by simp [Builtin.firstCells]) (hfirst w.drew fun _ _ k => k) (by simp) hcl
      have st := (Stp.drew hr).trans (HR.push hr.drew esz new cc e (Vs_iff.2 fun i q hq => by
        obtain ⟨v, hv, hV⟩ := Vs_iff.1 hcV _ _ hq
        exact ⟨v, h3 i v (by simpa using hv), hV⟩))
      refine wp_val (w' := w.drew.alloc (.cells cc e)) (u := .slice (some ⟨w.heap.size, 0, none⟩) (0 + len) cap2) ?_ (hnext _ _ _ _ st ?_)
      · rw [run, hX, h4]; rfl
      · simp only [V]
        exact ⟨⟨w.drew.heap.size, cc.size, esz⟩, if_pos ⟨rfl, rfl⟩, _, cap2, by rw [Nat.zero_add]; rfl, by omega, .inr ⟨rfl, by simpa using h2⟩⟩
  · rename_i ob ver off len hx
    split at hk
    case h_2 => cases hk
    rename_i obj hobj
    split at hk
    case isFalse => cases hk
    rename_i hcond
    obtain ⟨hoff, hver, hesz, hle, hroom, hb, hone⟩ := hcond
    subst hoff
    refine ⟨_, _, hk, ?_⟩
    intro J M w a hr hs hvs next Q hnext
    have hX := eval_rel hs hvs x
    rw [hx] at hX
    simp only [V] at hX
    obtain ⟨ej, hej, ad, cap, hxv, hlc, hcap⟩ := hX
    obtain ⟨e2, cb, tb, he2, hes, hbk, hbn, hcv⟩ := hr.ob _ _ hobj hej
    have hej' := he2
    rw [hver, hej] at he2
    cases he2
    obtain ⟨hnl, A, len2, cap2, hy, hlen, cl, hcl, hfirst, hcV⟩ := wcells_sound (P := P) hr (eval_rel hs hvs y) hwc
    subst hlen
    have htake : (obj.cells.take (len * esz)).length = len * esz := by simp; omega
    have hVt : Vs J M (obj.cells.take (len * esz)) (fun i => cb[i]?) := by
      refine Vs_iff.2 fun i q hq => ?_
      rw [List.getElem?_take] at hq
      split at hq
      case isFalse => cases hq
      exact Vs_iff.1 hcv _ _ hq
    by_cases hfit : len + len2 ≤ cap
    · -- there is room
      rcases hcap with hc0 | ⟨rfl, hcr⟩
      · -- no capacity: nothing is appended
        have hl0 : len = 0 := by omega
        have hn0 : len2 = 0 := by omega
        subst hl0
        subst hn0
        have hnew : new = [] := List.eq_nil_of_length_eq_zero (by simpa using hnl)
        have hcl0 : cl = [] := List.eq_nil_of_length_eq_zero (by simpa using hcl)
        subst hnew
        subst hcl0
        have st := HR.turn hr hobj hej' (e' := ej) (by rw [hes]) (cells' := []) hbk hbn (by simp [Vs]) (.inl rfl) (Fr.refl _ w)
        refine wp_val (w' := w) (u := .slice (some ad) 0 cap) ?_ (hnext _ _ _ _ (by rw [← hver, ← hesz]; simpa using st) ?_)
        · rw [run, hxv, run_append_fit (P := P) he hu hy hfit w (hfirst w fun _ _ k => k)]
          simp [storeCells]
        · simp only [V]
          exact ⟨ej, by simp [turnJ, hver], ad, cap, rfl, by omega, .inl hc0⟩
      · -- the cells go into the block
        have hesz' : ej.esz = esz := by rw [hes, hesz]
        have hsz : (len + len2) * esz ≤ cb.size := by
          rw [hbn]
          have : (len + len2) * esz ≤ cap * esz := Nat.mul_le_mul_right _ hfit
          rw [hesz'] at hcr
          omega
        have hadd : (len + len2) * esz = len * esz + len2 * esz := Nat.add_mul ..
        have hVl : Vs J M (obj.cells.take (len * esz) ++ List.replicate (len2 * esz) .any) (fun i => cb[i]?) := by
          refine Vs_iff.2 fun i q hq => ?_
          by_cases hi : i < len * esz
          · rw [List.getElem?_append_left (by omega)] at hq
            exact Vs_iff.1 hVt _ _ hq
          · have hlt := (List.getElem?_eq_some_iff.1 hq).1
            simp only [List.length_append, htake, List.length_replicate] at hlt
            rw [List.getElem?_append_right (by omega), htake] at hq
            rw [List.getElem?_replicate] at hq
            split at hq
            case isFalse => cases hq
            cases hq
            exact ⟨cb[i]'(by omega), by rw [Array.getElem?_eq_getElem], by simp [V]⟩
        obtain ⟨c', w', hrun, hw', hsz', hV', hfr⟩ := run_stores (P := P) (J := J) (M := M) cl new (len * esz) 0 _ cb w hbk (by rw [hcl, hnl]) hcV (fun q hq => List.all_eq_true.1 hone q hq)
          (by simp only [List.length_append, htake, List.length_replicate, hnl]; omega) hVl
        have hset : setAt (obj.cells.take (len * esz) ++ List.replicate (len2 * esz) .any) (len * esz + 0) new = obj.cells.take (len * esz) ++ new := by
          have := setAt_app new (obj.cells.take (len * esz)) (List.replicate (len2 * esz) .any) (by simp [hnl])
          rw [htake] at this
          exact this
        rw [hset] at hV'
        have st := HR.turn hr hobj hej' (e' := ej) (by rw [hes]) hw' (by rw [hsz', hbn]) hV' (.inl rfl) hfr
        refine wp_val (w' := w') (u := .slice (some ⟨ej.b, 0, none⟩) (len + len2) cap) ?_ (hnext _ _ _ _ (by rw [← hver, ← hesz]; rw [← hesz] at st; exact st) ?_)
        · rw [run, hxv, run_append_fit (P := P) he hu hy hfit w (hfirst w fun _ _ k => k)]
          simp only [add_none, Nat.zero_add, hrun, Result.andThen_ok]
        · simp only [V]
          exact ⟨ej, by simp [turnJ, hver], _, cap, rfl, by omega, .inr ⟨rfl, hcr⟩⟩
    · -- a new row
      have hold : ∀ i, i < len * esz → i < cb.size := by
        intro i hi
        obtain ⟨u, hu, _⟩ := Vs_iff.1 hcv i _ (List.getElem?_eq_getElem (by omega))
        exact (Array.getElem?_eq_some_iff.1 hu).1
      have hszo : len * esz ≤ cb.size := by
        rcases Nat.eq_zero_or_pos (len * esz) with h0 | h0
        · omega
        · have := hold (len * esz - 1) (by omega); omega
      have hfo : (Builtin.firstCells esz len (.slice (some ad) len cap)).run P w.drew = .ok (cb.toList.take (len * esz)).toArray w.drew := by
        refine run_firstCells_some (P := P) (w := w.drew) esz len ad len cap _ (by simp; omega) fun j v hj => ?_
        rw [List.getElem?_take] at hj
        split at hj
        case isFalse => cases hj
        rename_i hlt
        rcases hcap with h0 | ⟨rfl, _⟩
        · have : len = 0 := by omega
          subst this
          simp at hlt
        · rw [add_none]
          show w.cell? _ = _
          rw [cell_of_cells hbk]
          simpa using hj
      obtain ⟨cap3, cc, h1, h2, h3, h4⟩ := run_append_new (P := P) (ty := o.type) he hz hu (A := some ad) (sl := len) (sc := cap) (n := len2) hy (by omega) hroom hb (news := cl) w hfo (hfirst w.drew fun _ _ k => k) (by simp; omega) hcl
      have hVn : Vs J M (obj.cells.take (len * esz) ++ new) (fun i => cc[i]?) := by
        have hap := Vs_append (J := J) (M := M) (xs := obj.cells.take (len * esz)) (ys := new) (c := cb.toList.take (len * esz)) (d := cl) (by simp; omega) (Vs_iff.2 fun i q hq => by
          obtain ⟨v, hv, hV⟩ := Vs_iff.1 hVt _ _ hq
          refine ⟨v, ?_, hV⟩
          have := (List.getElem?_eq_some_iff.1 hq).1
          rw [List.getElem?_take, if_pos (by omega)]
          simpa using hv) hcV
        refine Vs_iff.2 fun i q hq => ?_
        obtain ⟨v, hv, hV⟩ := Vs_iff.1 hap _ _ hq
        exact ⟨v, h3 i v hv, hV⟩
      have hfr : Fr (fun b => b = w.heap.size) w.drew (w.drew.alloc (.cells cc e)) := ⟨rfl, rfl, rfl, by simp, fun b hb _ => heap_old _ _ hb⟩
      have st := (Stp.drew hr).trans (HR.turn hr.drew hobj hej' (e' := ⟨w.heap.size, cc.size, esz⟩) (by simp [hesz]) (w' := w.drew.alloc (.cells cc e)) (heap_new w.drew _) rfl hVn (.inr (Nat.le_refl _)) hfr)
      refine wp_val (w' := w.drew.alloc (.cells cc e)) (u := .slice (some ⟨w.heap.size, 0, none⟩) (len + len2) cap3) ?_ (hnext _ _ _ _ (by rw [← hver, ← hesz]; rw [← hesz] at st; exact st) ?_)
      · rw [run, hxv, h4]; rfl
      · simp only [V]
        exact ⟨⟨w.heap.size, cc.size, obj.esz⟩, by simp [turnJ, hver], _, cap3, rfl, h1, .inr ⟨rfl, by simpa [hesz] using h2⟩⟩
  · cases hk
end ops
end Go.Proofs.Ytknphnmhjmejaaa
/-  The abstract machine's calls and operations against the model's. No conditions. -/
namespace Go.Proofs.Ytknphnmhjmejaaa
set_option linter.unusedVariables false

def RelE (J : Jm) (M : Mm) (r : ARes) (e : Ending) : Prop :=
  match r with
  | .ret v => ∃ u, e = .returned u ∧ V J M v u
  | .pan v => ∃ u, e = .panicked [{ v := u, recovered := false }] ∧ V J M v u
def RelP (M : Mm) (r : Res) (e : Ending) : Prop :=
  match r with
  | .ret v => ∃ u, e = .returned u ∧ VR M v u
  | .pan v => ∃ u, e = .panicked [{ v := u, recovered := false }] ∧ VR M v u
/-- What a call of a function does, told of all states that an abstract one stands for. -/
def ACalls (P : Program) (f : FuncId) (args : List AV) (h : Hp) (r : ARes) (h' : Hp) : Prop :=
  ∀ J M w (cargs : Array Value), HR J M h w → cargs.size = args.length → Vs J M args (fun i => cargs[i]?) →
    Calls P f cargs w fun e w' => ∃ J' M', Stp J M h w J' M' h' w' ∧ RelE J' M' r e
def Held (M : Mm) (w : World) : Prop := ∀ a v, M a = some v → w.cell? a = some v
/-- What a call of a function does that writes nothing that was there, told of values held still. -/
def PCalls (P : Program) (f : FuncId) (rs : List RV) (r : Res) : Prop :=
  ∀ M w (cargs : Array Value), Held M w → cargs.size = rs.length → VRs M rs (fun i => cargs[i]?) →
    Calls P f cargs w fun e w' => ∃ M', MLe M M' ∧ Held M' w' ∧ (∀ a v, M' a = some v → M a = some v ∨ w.heap.size ≤ a.block) ∧ Fr (fun _ => False) w w' ∧ RelP M' r e
def Ent (P : Program) (f : FuncId) : Prop := ∀ args w, (callFunc f args).run P w = .ok (.enter f args) w
def bop (d : Tmp) (op : Op) (t : TypeId) (pos : String) (af : Array Edge) : Oper := { dst := some d, op := op, type := t, pos := pos, after := af, guard := none }
/-- The code of what 'slices.Backward' hands back, but for the types' numbers. -/
def backCode (s i b y : TypeId) : Code :=
  .seq (.region 0 #[
      bop 4 (.load s (.tmp 1)) s "iter.go:28" #[],
      bop 5 (.call { callee := .builtin .len, args := #[.tmp 4], argTypes := #[s] }) i "iter.go:28" #[⟨0, .data⟩],
      bop 6 (.binOp .sub i (.tmp 5) (.const (.int .i64 1)) i) i "iter.go:28" #[⟨1, .data⟩],
      bop 3 (.assign (.tmp 6)) i "iter.go:28" #[⟨2, .data⟩, ⟨0, .phase⟩, ⟨1, .phase⟩, ⟨2, .phase⟩]] false)
  (.block 0 (.loop
    (.seq (.seq (.region 1 #[
        bop 7 (.move (.tmp 3)) i "iter.go:28" #[],
        bop 8 (.binOp .geq i (.tmp 7) (.const (.int .i64 0)) i) b "iter.go:28" #[⟨0, .data⟩]] false)
      (.cond (.tmp 8) .skip (.exit 0)))
    (.seq (.block 1 (.seq (.region 3 #[
        bop 11 (.move (.tmp 0)) y "iter.go:29" #[],
        bop 12 (.move (.tmp 3)) i "iter.go:29" #[],
        bop 13 (.load s (.tmp 1)) s "iter.go:29" #[],
        bop 14 (.move (.tmp 3)) i "iter.go:29" #[],
        bop 15 (.indexAddr s (.tmp 13) (.tmp 14)) 0 "iter.go:29" #[⟨2, .data⟩, ⟨3, .data⟩],
        bop 16 (.load i (.tmp 15)) i "iter.go:29" #[⟨4, .data⟩],
        bop 17 (.call { callee := .value (.tmp 11), args := #[.tmp 12, .tmp 16], argTypes := #[i, i] }) b "iter.go:29" #[⟨0, .data⟩, ⟨1, .data⟩, ⟨5, .data⟩],
        bop 18 (.unOp .not b (.tmp 17)) b "iter.go:29" #[⟨6, .data⟩]] false)
      (.cond (.tmp 18) .ret .skip)))
      (.region 2 #[
        bop 9 (.move (.tmp 3)) i "iter.go:28" #[],
        bop 10 (.binOp .sub i (.tmp 9) (.const (.int .i64 1)) i) i "iter.go:28" #[⟨0, .data⟩],
        bop 3 (.assign (.tmp 10)) i "iter.go:28" #[⟨1, .data⟩, ⟨0, .phase⟩, ⟨1, .phase⟩]] false)))))
def BackIs (P : Program) (f : FuncId) (s i b y e : TypeId) (fn : Func) (n : Nat) : Prop :=
  P.funcs[f]? = some fn ∧ fn.body = some (backCode s i b y) ∧ fn.ntmps = 19 ∧ fn.results = #[] ∧ elemSz P s = some (1, n, e) ∧ P.underlying i = some (.int .i64) ∧ P.underlying b = some .bool
def GoodC (P : Program) (f : FuncId) (c : Callee) : Prop :=
  Ent P f ∧ match c with
    | .pure F => ∀ rs r, F rs = some r → PCalls P f rs r
    | .gen G => ∀ args h r h', G args h = some (r, h') → ACalls P f args h r h'
    | .back => ∃ s i b y e fn n, BackIs P f s i b y e fn n
def Good (P : Program) (Γ : FuncId → Option Callee) : Prop := ∀ f c, Γ f = some c → GoodC P f c

theorem HR.fresh {J M h w w'} (r : HR J M h w) (f : Fr (fun _ => False) w w') {M' : Mm} (hle : MLe M M') (him : Held M' w') (hnew : ∀ a v, M' a = some v → M a = some v ∨ w.heap.size ≤ a.block) : HR J M' h w' := by
  refine ⟨?_, r.key, r.inj, him, ?_⟩
  · intro o ob ho
    rcases r.ob0 o ob ho with hd | ⟨e, c, t, he, hs, hb, hn, hv⟩
    · exact .inl hd
    exact .inr ⟨e, c, t, he, hs, by rw [f.block _ (lt_of_cells hb) (by simp)]; exact hb, hn, Vs_mono (JLe.refl J) hle _ _ _ (fun _ _ k => k) hv⟩
  · intro a v o ob e k ho he
    rcases hnew a v k with k | k
    · exact r.sep _ _ _ _ _ k ho he
    · have := owned_lt r ⟨o, ob, e, ho, he, rfl⟩
      omega
theorem Stp.fresh {J M h w w'} (r : HR J M h w) (f : Fr (fun _ => False) w w') {M' : Mm} (hle : MLe M M') (him : Held M' w') (hnew : ∀ a v, M' a = some v → M a = some v ∨ w.heap.size ≤ a.block) : Stp J M h w J M' h w' :=
  ⟨JLe.refl J, hle, r.fresh f hle him hnew, Nat.le_refl _, ⟨f.os, f.tape, f.output, f.size, fun b hb _ => f.block b hb (by simp)⟩, fun a v k => (hnew a v k).elim .inl fun x => .inr (.inr x), fun _ k => .inl k, fun _ _ _ k => .inr ⟨_, _, k⟩⟩
open Classical in
/-- All that an object holds, held still as it is. -/
noncomputable def heldM (J : Jm) (M : Mm) (h : Hp) (w : World) : Mm := fun a => match M a with
  | some v => some v
  | none => if owned J h a.block then w.cell? a else none
theorem heldM_le {J M h w} : MLe M (heldM J M h w) := by
  intro a v k
  simp [heldM, k]
theorem heldM_held {J M h w} (r : HR J M h w) : Held (heldM J M h w) w := by
  intro a v k
  unfold heldM at k
  split at k
  · simp only [Option.some.injEq] at k
    subst k
    exact r.im _ _ ‹_›
  · split at k
    · exact k
    · cases k
theorem heldM_own {J M h w} (r : HR J M h w) {o : Nat} {ob : Ob} {e : JE} (ho : h[o]? = some ob) (he : J o ob.ver = some e) (i : Nat) : heldM J M h w ⟨e.b, i, none⟩ = w.cell? ⟨e.b, i, none⟩ := by
  unfold heldM
  split
  · rename_i v k
    exact absurd rfl (r.sep _ _ _ _ _ k ho he)
  · rw [if_pos ⟨o, ob, e, ho, he, rfl⟩]
theorem mapM_some {α β : Type} {f : α → Option β} : ∀ {l : List α} {l' : List β}, l.mapM f = some l' → l'.length = l.length ∧ ∀ (i : Nat) (y : β), l'[i]? = some y → ∃ x : α, l[i]? = some x ∧ f x = some y
  | [], l', h => by
    simp only [List.mapM_nil] at h
    cases h
    simp
  | x :: l, l', h => by
    simp only [List.mapM_cons, Option.bind_eq_bind, Option.bind_eq_some_iff] at h
    obtain ⟨y, hy, ys, hys, h⟩ := h
    cases h
    obtain ⟨h1, h2⟩ := mapM_some hys
    refine ⟨by simp [h1], fun i z hz => ?_⟩
    cases i with
    | zero => simp at hz; subst hz; exact ⟨x, rfl, hy⟩
    | succ i => exact h2 i z (by simpa using hz)
theorem toRV_sound {J M h w} (r : HR J M h w) : ∀ (n : Nat) (x : AV) (y : RV) (v : Value), toRV h n x = some y → V J M x v → VR (heldM J M h w) y v
  | 0, x, y, v, hx, _ => by simp [toRV] at hx
  | n + 1, .rv x, y, v, hx, hV => by
    simp only [toRV, Option.some.injEq] at hx
    subst hx
    simp only [V] at hV
    exact VR_mono heldM_le _ _ hV
  | n + 1, .sl o ver off len, y, v, hx, hV => by
    simp only [toRV] at hx
    split at hx
    case h_2 => cases hx
    rename_i ob hob
    split at hx
    case isFalse => cases hx
    rename_i hc
    obtain ⟨hver, hle⟩ := hc
    rw [Option.map_eq_some_iff] at hx
    obtain ⟨cs, hcs, rfl⟩ := hx
    obtain ⟨hlen, hget⟩ := mapM_some hcs
    simp only [V] at hV
    obtain ⟨e, he, a, cap, rfl, hlc, hcap⟩ := hV
    obtain ⟨e2, c, t, he2, hes, hb, hn, hcv⟩ := r.ob _ _ hob he
    have he2' := he2
    rw [hver, he] at he2
    cases he2
    simp only [VR]
    refine ⟨a, cap, rfl, hlc, VRs_iff.2 fun i z hz => ?_⟩
    obtain ⟨x, hxx, hfx⟩ := hget i z hz
    rw [List.getElem?_take] at hxx
    split at hxx
    case isFalse => cases hxx
    rename_i hlt
    rw [List.getElem?_drop] at hxx
    obtain ⟨u, hu, hU⟩ := Vs_iff.1 hcv _ _ hxx
    rcases hcap with h0 | ⟨rfl, _⟩
    · have : len = 0 := by omega
      subst this
      simp at hlt
    · refine ⟨u, ?_, toRV_sound r n x z u hfx hU⟩
      rw [add_none, heldM_own r hob he2', cell_of_cells hb]
      exact hu
  | n + 1, .ptr o ver off, y, v, hx, hV => by
    simp only [toRV] at hx
    split at hx
    case h_2 => cases hx
    rename_i ob hob
    split at hx
    case isFalse => cases hx
    rename_i hver
    rw [Option.map_eq_some_iff] at hx
    obtain ⟨cs, hcs, rfl⟩ := hx
    obtain ⟨hlen, hget⟩ := mapM_some hcs
    simp only [V] at hV
    obtain ⟨e, he, rfl⟩ := hV
    obtain ⟨e2, c, t, he2, hes, hb, hn, hcv⟩ := r.ob _ _ hob he
    have he2' := he2
    rw [hver, he] at he2
    cases he2
    simp only [VR]
    refine ⟨_, rfl, VRs_iff.2 fun i z hz => ?_⟩
    obtain ⟨x, hxx, hfx⟩ := hget i z hz
    rw [List.getElem?_drop] at hxx
    obtain ⟨u, hu, hU⟩ := Vs_iff.1 hcv _ _ hxx
    refine ⟨u, ?_, toRV_sound r n x z u hfx hU⟩
    rw [add_none, heldM_own r hob he2', cell_of_cells hb]
    exact hu
  | n + 1, .iface t x, y, v, hx, hV => by
    simp only [toRV, Option.map_eq_some_iff] at hx
    obtain ⟨z, hz, rfl⟩ := hx
    simp only [V] at hV
    obtain ⟨u, rfl, hU⟩ := hV
    simp only [VR]
    exact ⟨u, rfl, toRV_sound r n x z u hz hU⟩
  | n + 1, .agg cs, y, v, hx, hV => by
    simp only [toRV, Option.map_eq_some_iff] at hx
    obtain ⟨zs, hz, rfl⟩ := hx
    obtain ⟨hlen, hget⟩ := mapM_some hz
    simp only [V] at hV
    obtain ⟨vs, rfl, hs, hvs⟩ := hV
    simp only [VR]
    refine ⟨vs, rfl, by rw [hs, hlen], VRs_iff.2 fun i z hz => ?_⟩
    obtain ⟨x, hxx, hfx⟩ := hget i z hz
    obtain ⟨u, hu, hU⟩ := Vs_iff.1 hvs _ _ hxx
    exact ⟨u, hu, toRV_sound r n x z u hfx hU⟩
  | n + 1, .tuple cs, y, v, hx, hV => by
    simp only [toRV, Option.map_eq_some_iff] at hx
    obtain ⟨zs, hz, rfl⟩ := hx
    obtain ⟨hlen, hget⟩ := mapM_some hz
    simp only [V] at hV
    obtain ⟨vs, rfl, hs, hvs⟩ := hV
    simp only [VR]
    refine ⟨vs, rfl, by rw [hs, hlen], VRs_iff.2 fun i z hz => ?_⟩
    obtain ⟨x, hxx, hfx⟩ := hget i z hz
    obtain ⟨u, hu, hU⟩ := Vs_iff.1 hvs _ _ hxx
    exact ⟨u, hu, toRV_sound r n x z u hfx hU⟩
  | n + 1, .any, y, v, hx, _ => by simp [toRV] at hx
  | n + 1, .func .., y, v, hx, _ => by simp [toRV] at hx
theorem allRV_mem : ∀ {cs : List AV} {i : Nat} {x : AV}, allRV cs = true → cs[i]? = some x → isRV x = true
  | y :: cs, i, x, h, hx => by
    simp only [allRV, Bool.and_eq_true] at h
    cases i with
    | zero => simp at hx; subst hx; exact h.1
    | succ i => exact allRV_mem h.2 (by simpa using hx)
theorem toRV_rv {J M h} : ∀ (n : Nat) (x : AV) (y : RV) (v : Value), isRV x = true → toRV h n x = some y → V J M x v → VR M y v
  | 0, x, y, v, _, hx, _ => by simp [toRV] at hx
  | n + 1, .rv x, y, v, _, hx, hV => by
    simp only [toRV, Option.some.injEq] at hx
    subst hx
    simpa only [V] using hV
  | n + 1, .iface t x, y, v, hr, hx, hV => by
    simp only [toRV, Option.map_eq_some_iff] at hx
    obtain ⟨z, hz, rfl⟩ := hx
    simp only [isRV] at hr
    simp only [V] at hV
    obtain ⟨u, rfl, hU⟩ := hV
    simp only [VR]
    exact ⟨u, rfl, toRV_rv n x z u hr hz hU⟩
  | n + 1, .agg cs, y, v, hr, hx, hV => by
    simp only [toRV, Option.map_eq_some_iff] at hx
    obtain ⟨zs, hz, rfl⟩ := hx
    simp only [isRV] at hr
    obtain ⟨hlen, hget⟩ := mapM_some hz
    simp only [V] at hV
    obtain ⟨vs, rfl, hs, hvs⟩ := hV
    simp only [VR]
    refine ⟨vs, rfl, by rw [hs, hlen], VRs_iff.2 fun i z hz => ?_⟩
    obtain ⟨x, hxx, hfx⟩ := hget i z hz
    obtain ⟨u, hu, hU⟩ := Vs_iff.1 hvs _ _ hxx
    exact ⟨u, hu, toRV_rv n x z u (allRV_mem hr hxx) hfx hU⟩
  | n + 1, .tuple cs, y, v, hr, hx, hV => by
    simp only [toRV, Option.map_eq_some_iff] at hx
    obtain ⟨zs, hz, rfl⟩ := hx
    simp only [isRV] at hr
    obtain ⟨hlen, hget⟩ := mapM_some hz
    simp only [V] at hV
    obtain ⟨vs, rfl, hs, hvs⟩ := hV
    simp only [VR]
    refine ⟨vs, rfl, by rw [hs, hlen], VRs_iff.2 fun i z hz => ?_⟩
    obtain ⟨x, hxx, hfx⟩ := hget i z hz
    obtain ⟨u, hu, hU⟩ := Vs_iff.1 hvs _ _ hxx
    exact ⟨u, hu, toRV_rv n x z u (allRV_mem hr hxx) hfx hU⟩
  | n + 1, .any, y, v, _, hx, _ => by simp [toRV] at hx
  | n + 1, .func .., y, v, hr, _, _ => by simp [isRV] at hr
  | n + 1, .ptr .., y, v, hr, _, _ => by simp [isRV] at hr
  | n + 1, .sl .., y, v, hr, _, _ => by simp [isRV] at hr
theorem VR_scal {M M' : Mm} {x : RV} {v : Value} (hx : scalR x = true) (hV : VR M x v) : VR M' x v := by
  cases x <;> simp [scalR] at hx <;> simpa only [VR] using hV
theorem VR_flat {M M' : Mm} {x : RV} {v : Value} (hx : flatR x = true) (hV : VR M x v) : VR M' x v := by
  unfold flatR at hx
  split at hx
  · rename_i cs
    simp only [VR] at hV ⊢
    obtain ⟨vs, rfl, hs, hvs⟩ := hV
    refine ⟨vs, rfl, hs, VRs_iff.2 fun i y hy => ?_⟩
    obtain ⟨u, hu, hU⟩ := VRs_iff.1 hvs _ _ hy
    exact ⟨u, hu, VR_scal (List.all_eq_true.1 hx y (List.mem_of_getElem? hy)) hU⟩
  · simp only [VR] at hV ⊢
    obtain ⟨u, rfl, hU⟩ := hV
    exact ⟨u, rfl, VR_scal hx hU⟩
  · exact VR_scal hx hV

section ops
variable {P : Program} {Γ : FuncId → Option Callee} {R : Type} {o : Oper} {ts : List AV} {h : Hp} {K Kp : AV → Hp → Option R} {r : R}
/-- A call: what it does of all that the state stands for. -/
theorem callP_sound {f : FuncId} {F : List RV → Option Res} (hg : ∀ rs r, F rs = some r → PCalls P f rs r) {args : List AV} {K1 K2 : AV → Option R} (hk : callP F h args K1 K2 = some r) :
    (∃ v, K1 v = some r ∧ ACalls P f args h (.ret v) h) ∨ (∃ v, K2 v = some r ∧ ACalls P f args h (.pan v) h) := by
  unfold callP at hk
  split at hk
  case h_2 => cases hk
  rename_i rs hrs
  have key : ∀ (rr : Res), F rs = some rr → (args.all isRV = true ∨ flatR (match rr with | .ret v => v | .pan v => v) = true) →
      ACalls P f args h (match rr with | .ret v => .ret (.rv v) | .pan v => .pan (.rv v)) h := by
    intro rr hF hcond J M w cargs hr hsz hvs
    obtain ⟨hlen, hget⟩ := mapM_some hrs
    rcases hcond with hall | hflat
    · have hvr : VRs M rs (fun i => cargs[i]?) := by
        refine VRs_iff.2 fun i y hy => ?_
        obtain ⟨x, hx, hfx⟩ := hget i y hy
        obtain ⟨v, hv, hV⟩ := Vs_iff.1 hvs _ _ hx
        have hxr := List.all_eq_true.1 hall x (List.mem_of_getElem? hx)
        exact ⟨v, hv, toRV_rv _ _ _ _ hxr hfx hV⟩
      refine (hg rs rr hF M w cargs hr.im (by rw [hsz, hlen]) hvr).mono fun e w' ⟨M', hle, him, hnew, hfr, hrel⟩ => ⟨J, M', Stp.fresh hr hfr hle him hnew, ?_⟩
      cases rr with
      | ret v => obtain ⟨u, rfl, hV⟩ := hrel; exact ⟨u, rfl, by simpa only [V] using hV⟩
      | pan v => obtain ⟨u, rfl, hV⟩ := hrel; exact ⟨u, rfl, by simpa only [V] using hV⟩
    · have hvr : VRs (heldM J M h w) rs (fun i => cargs[i]?) := by
        refine VRs_iff.2 fun i y hy => ?_
        obtain ⟨x, hx, hfx⟩ := hget i y hy
        obtain ⟨v, hv, hV⟩ := Vs_iff.1 hvs _ _ hx
        exact ⟨v, hv, toRV_sound hr _ _ _ _ hfx hV⟩
      refine (hg rs rr hF _ w cargs (heldM_held hr) (by rw [hsz, hlen]) hvr).mono fun e w' ⟨M', hle, him, hnew, hfr, hrel⟩ =>
        ⟨J, M, Stp.fresh hr hfr (MLe.refl M) (fun a v k => him a v (hle a v (heldM_le a v k))) (fun _ _ k => .inl k), ?_⟩
      cases rr with
      | ret v => obtain ⟨u, rfl, hV⟩ := hrel; exact ⟨u, rfl, by simp only [V]; exact VR_flat hflat hV⟩
      | pan v => obtain ⟨u, rfl, hV⟩ := hrel; exact ⟨u, rfl, by simp only [V]; exact VR_flat hflat hV⟩
  split at hk
  · rename_i v hF
    split at hk
    case isFalse => cases hk
    rename_i hc
    exact .inl ⟨_, hk, key _ hF hc⟩
  · rename_i v hF
    split at hk
    case isFalse => cases hk
    rename_i hc
    exact .inr ⟨_, hk, key _ hF hc⟩
  · cases hk
theorem callC_sound (good : Good P Γ) {f : FuncId} {args : List AV} (hk : callC Γ f h args K Kp = some r) :
    Ent P f ∧ ((∃ v h', K v h' = some r ∧ ACalls P f args h (.ret v) h') ∨ (∃ v h', Kp v h' = some r ∧ ACalls P f args h (.pan v) h')) := by
  unfold callC at hk
  split at hk
  · rename_i F hF
    obtain ⟨hent, hg⟩ := good _ _ hF
    refine ⟨hent, ?_⟩
    rcases callP_sound hg hk with ⟨v, h1, h2⟩ | ⟨v, h1, h2⟩
    · exact .inl ⟨v, h, h1, h2⟩
    · exact .inr ⟨v, h, h1, h2⟩
  · rename_i G hG
    obtain ⟨hent, hg⟩ := good _ _ hG
    refine ⟨hent, ?_⟩
    unfold callG at hk
    split at hk
    · exact .inl ⟨_, _, hk, hg _ _ _ _ ‹_›⟩
    · exact .inr ⟨_, _, hk, hg _ _ _ _ ‹_›⟩
    · cases hk
  · cases hk
theorem Vs_app {J M} {xs ys : List AV} {c d : Array Value} (hc : c.size = xs.length) (h1 : Vs J M xs (fun i => c[i]?)) (h2 : Vs J M ys (fun i => d[i]?)) : Vs J M (xs ++ ys) (fun i => (c ++ d)[i]?) := by
  refine Vs_iff.2 fun i x hx => ?_
  by_cases hi : i < xs.length
  · rw [List.getElem?_append_left hi] at hx
    obtain ⟨v, hv, hV⟩ := Vs_iff.1 h1 _ _ hx
    exact ⟨v, by rw [Array.getElem?_append_left (by omega)]; exact hv, hV⟩
  · rw [List.getElem?_append_right (by omega)] at hx
    obtain ⟨v, hv, hV⟩ := Vs_iff.1 h2 _ _ hx
    exact ⟨v, by rw [Array.getElem?_append_right (by omega), hc]; exact hv, hV⟩
theorem snd_callV (good : Good P Γ) {c : Call} {fo : Operand} (ho : o.op = .call c) (hc : c.callee = .value fo) (hk : callV Γ (aeval ts fo) h (c.args.toList.map (aeval ts)) K Kp = some r) :
    (∃ v h', K v h' = some r ∧ OpRes P o ts h v h') ∨ (∃ v h', Kp v h' = some r ∧ OpPan P o ts h v h') := by
  unfold callV at hk
  split at hk
  case h_2 => cases hk
  rename_i g fst cap hf
  obtain ⟨hent, hcalls⟩ := callC_sound good hk
  have run : ∀ J M w (a : Act), a.tmps.size = ts.length → Vs J M ts (fun i => a.tmps[i]?) → ∃ cargs : Array Value, (execOp a.eval o).run P w = .ok (.enter g cargs) w ∧
      cargs.size = (fst ++ c.args.toList.map (aeval ts) ++ cap).length ∧ Vs J M (fst ++ c.args.toList.map (aeval ts) ++ cap) (fun i => cargs[i]?) := by
    intro J M w a hs hvs
    have hV := eval_rel hs hvs fo
    rw [hf] at hV
    simp only [V] at hV
    obtain ⟨us, vs, hfv, ⟨hus, huv⟩, hcs, hcv⟩ := hV
    refine ⟨us ++ c.args.map a.eval ++ vs, ?_, by simp [hcs, hus], Vs_app (by simp [hus]) (Vs_app hus huv ?_) hcv⟩
    · simp only [execOp, ho, resolve, hc, hfv, Deferred.ofValue, Sem.run_bind, Sem.run_pure, Result.andThen_ok, invoke]
      exact hent (us ++ c.args.map a.eval ++ vs) w
    · have := Vs_map hs hvs c.args.toList
      refine Vs_mono (JLe.refl J) (MLe.refl M) _ _ _ (fun i v hv => ?_) this
      simpa using hv
  rcases hcalls with ⟨v, h', h1, h2⟩ | ⟨v, h', h1, h2⟩
  · refine .inl ⟨v, h', h1, ?_⟩
    intro J M w a hr hs hvs next Q hn
    obtain ⟨cargs, hrun, hsz, hcv⟩ := run J M w a hs hvs
    unfold Oper.wp
    rw [hrun, Oper.upon_enter]
    refine (h2 J M w cargs hr hsz hcv).mono fun e w' ⟨J', M', st, hrel⟩ => ?_
    obtain ⟨u, rfl, hU⟩ := hrel
    exact hn J' M' w' u st hU
  · refine .inr ⟨v, h', h1, ?_⟩
    intro J M w a hr hs hvs next Q hn
    obtain ⟨cargs, hrun, hsz, hcv⟩ := run J M w a hs hvs
    unfold Oper.wp
    rw [hrun, Oper.upon_enter]
    refine (h2 J M w cargs hr hsz hcv).mono fun e w' ⟨J', M', st, hrel⟩ => ?_
    obtain ⟨u, rfl, hU⟩ := hrel
    exact hn J' M' w' u st hU
theorem snd_panic {x : Operand} (ho : o.op = .panic x) (hx : ∃ t y, aeval ts x = .rv (.iface t y) ∨ ∃ y, aeval ts x = .iface t y) : OpPan P o ts h (aeval ts x) h := by
  intro J M w a hr hs hvs next Q hn
  have hV := eval_rel hs hvs x
  have hi : ∃ t u, a.eval x = .iface t u := by
    obtain ⟨t, y, e | ⟨y, e⟩⟩ := hx
    · rw [e] at hV; simp only [V, VR] at hV; obtain ⟨u, hu, _⟩ := hV; exact ⟨t, u, hu⟩
    · rw [e] at hV; simp only [V] at hV; obtain ⟨u, hu, _⟩ := hV; exact ⟨t, u, hu⟩
  obtain ⟨t, u, hu⟩ := hi
  unfold Oper.wp
  have : (execOp a.eval o).run P w = .halt (.panic (.iface t u)) w := by
    simp [execOp, ho, hu, Instr.panic]
  rw [this, Oper.upon_panic, ← hu]
  exact hn J M w _ (Stp.refl hr) hV

/-! ### All operations -/
theorem pnc_inv {x : AV} {K' : AV → Option R} (hk : pnc x K' = some r) : K' x = some r ∧ ∃ t y, x = .rv (.iface t y) ∨ ∃ y, x = .iface t y := by
  unfold pnc at hk
  split at hk
  · exact ⟨hk, _, _, .inl rfl⟩
  · exact ⟨hk, _, .nili, .inr ⟨_, rfl⟩⟩
  · cases hk
abbrev Snd (P : Program) (o : Oper) (ts : List AV) (h : Hp) (K Kp : AV → Hp → Option R) (r : R) : Prop :=
  (∃ v h', K v h' = some r ∧ OpRes P o ts h v h') ∨ (∃ v h', Kp v h' = some r ∧ OpPan P o ts h v h')
theorem Snd.of {v : AV} {h' : Hp} (hk : K v h' = some r) (hs : OpRes P o ts h v h') : Snd P o ts h K Kp r := .inl ⟨v, h', hk, hs⟩
theorem Snd.of1 (x : ∃ v, K v h = some r ∧ OpRes P o ts h v h) : Snd P o ts h K Kp r := .inl (let ⟨v, hk, hs⟩ := x; ⟨v, h, hk, hs⟩)
theorem snd_binK {op : BinOp} {t : TypeId} {x y : Operand} {t2 : TypeId} {K' : AV → Option R} (ho : o.op = .binOp op t x y t2) (hk : binK P op t x y (aeval ts x) (aeval ts y) K' = some r) :
    ∃ v, K' v = some r ∧ OpRes P o ts h v h := by
  unfold binK at hk
  rcases bsq_inv hk with ⟨h0, hk⟩ | ⟨h0, hk⟩
  · clear h0
    split at hk
    case h_14 => exact snd_binA ho hk
    all_goals first
      | (obtain ⟨m, hx, hk⟩ := asInt_inv hk
         obtain ⟨n, hy, hk⟩ := asInt_inv hk
         first
          | (split at hk
             · cases hk
             · rename_i hne
               refine ⟨_, hk, snd_int ho hx hy (fun w => ?_) (fun J M => V_int' _ _)⟩
               simp [Go.binOp, Op.intDiv, hne, wri])
          | (refine ⟨_, hk, snd_int ho hx hy (fun w => ?_) (fun J M => V_int' _ _)⟩
             simp [Go.binOp, Op.intArith, wri]; done)
          | (refine ⟨_, hk, snd_int ho hx hy (fun w => ?_) (fun J M => V_bool' _)⟩
             simp [Go.binOp, Op.intCmp]; done))
      | (have hd : P.underlying t = some .bool := by assumption
         obtain ⟨m, hx, hk⟩ := asBool_inv hk
         obtain ⟨n, hy, hk⟩ := asBool_inv hk
         refine ⟨_, hk, snd_bool ho hx hy (fun w => ?_) (fun J M => V_bool' _)⟩
         have hE : (Op.equal t (.bool m) (.bool n)).run P w = .ok (m == n) w := by
           unfold Op.equal
           rw [show Op.maxDepth = 9999 + 1 from rfl]
           unfold Op.equalIn
           simp [underlying_run hd]
         simp [Go.binOp, hE])
  · rcases bsq_inv hk with ⟨h1, hk⟩ | ⟨_, hk⟩
    case inr => cases hk
    have hn0 : nilConst y ≠ 0 := by
      intro e
      rw [e] at h0
      cases h0
    have he := Nat.eq_of_beq_eq_true h1
    split at hk
    · obtain ⟨c, hk, hs⟩ := snd_nilEq (neg := false) ho rfl he hn0 hk
      exact ⟨_, hk, hs⟩
    · obtain ⟨c, hk, hs⟩ := snd_nilEq (neg := true) ho rfl he hn0 hk
      exact ⟨_, hk, hs⟩
    · cases hk
theorem sameOp_eq {a b : Operand} (hs : sameOp a b = true) : a = b := by
  cases a <;> cases b <;> simp [sameOp] at hs
  rw [hs]
theorem snd_makeSlice {t e : TypeId} {x y : Operand} {sz bytes : Nat} {z : List AV} {n m : Int} (ho : o.op = .makeSlice t x y) (he : elemSz P t = some (sz, bytes, e)) (hz : zeroE P e sz = some z)
    (hx : aeval ts x = .rv (.int .i64 n)) (hy : aeval ts y = .rv (.int .i64 m)) (h0 : 0 ≤ n) (hnm : n ≤ m) (hm : m ≤ room) (hb : bytes * m ≤ room) : OpRes P o ts h (.sl h.length 0 0 n.toNat) (h ++ [⟨0, sz, zrep z n.toNat⟩]) := by
  refine OpRes.new (.inr ⟨_, rfl⟩) fun J M w a hr hs hvs => ?_
  have h1 := eval_rel hs hvs x
  have h2 := eval_rel hs hvs y
  rw [hx] at h1
  rw [hy] at h2
  obtain ⟨c, hc, hsz, hrun⟩ := run_make (P := P) (J := J) (M := M) he hz h0 hnm hm hb w
  exact ⟨c, e, hc, .inr ⟨n.toNat, m.toNat, rfl, by omega, hsz, by simp [execOp, ho, V_int h1, V_int h2, hrun]⟩⟩
theorem aop_sound (good : Good P Γ) (hk : aop P Γ o ⟨ts, h⟩ K Kp = some r) : Snd P o ts h K Kp r := by
  unfold aop at hk
  simp only at hk
  split at hk
  · exact .of hk (snd_move ‹_›)
  · exact .of hk (snd_assign ‹_›)
  · rename_i c a b ho
    obtain ⟨t, hc, hk⟩ := asBool_inv hk
    rcases bsp_inv hk with ⟨rfl, hk⟩ | ⟨rfl, hk⟩
    · exact .of hk (by simpa using snd_pick (P := P) (h := h) ho hc)
    · exact .of hk (by simpa using snd_pick (P := P) (h := h) ho hc)
  · rename_i t ho
    unfold nwc at hk
    split at hk
    · exact .of hk (snd_alloc ho ‹_›)
    · cases hk
  · rename_i t x ho
    unfold nwc at hk
    split at hk
    · exact .of hk (snd_box ho ‹_›)
    · cases hk
  · rename_i t parts ho
    split at hk
    case h_2 => cases hk
    rename_i fs z hd hz
    rcases bsq_inv hk with ⟨hall, hk⟩ | ⟨_, hk⟩
    · exact .of1 (snd_build ho hd hz hall hk)
    · cases hk
  · rename_i t len parts ho
    split at hk
    case h_2 => cases hk
    rename_i sz bytes e he
    split at hk
    case h_2 => cases hk
    rename_i z hz
    rcases bsq_inv hk with ⟨hl, hk⟩ | ⟨_, hk⟩
    · obtain ⟨v, h', h1, h2⟩ := snd_buildSlice ho he hz (Nat.le_of_ble_eq_true hl) hk
      exact .of h1 h2
    · cases hk
  · rename_i t a ho
    split at hk
    · cases hk
    · rename_i fs hd
      rcases bsq_inv hk with ⟨_, hk⟩ | ⟨h0, hk⟩
      · cases hk
      · unfold ldg at hk
        split at hk
        · exact .of hk (snd_loadg ho hd rfl (fun e => by rw [e] at h0; cases h0) ‹_›)
        · cases hk
    · rename_i n el hd
      rcases bsq_inv hk with ⟨_, hk⟩ | ⟨h0, hk⟩
      · cases hk
      · unfold ldg at hk
        split at hk
        · exact .of hk (snd_loadg ho hd rfl (fun e => by rw [e] at h0; cases h0) ‹_›)
        · cases hk
    · rename_i k hd
      unfold ldi at hk
      obtain ⟨x, hx, hk1⟩ := ldv_inv hk
      obtain ⟨n, hxn, hk2⟩ := asInt_inv hk1
      rw [hxn] at hx
      exact .of hk2 (snd_load1 ho hd rfl hx)
    · rename_i hd
      unfold ldb at hk
      obtain ⟨x, hx, hk1⟩ := ldv_inv hk
      obtain ⟨n, hxn, hk2⟩ := asBool_inv hk1
      rw [hxn] at hx
      exact .of hk2 (snd_load1 ho hd rfl hx)
    · rename_i d hn1 hn2 hn3 hn4 hd
      obtain ⟨x, hx, hk⟩ := ldv_inv hk
      exact .of hk (snd_load1 ho hd (by cases d <;> simp_all [isAggD]) hx)
  · rename_i t a x ho
    rcases bsq_inv hk with ⟨hi, hk⟩ | ⟨_, hk⟩
    · obtain ⟨h', h1, h2⟩ := snd_store ho hi hk
      exact .of h1 h2
    · cases hk
  · exact .of1 (snd_nilCheck ‹_› hk)
  · exact .of1 (snd_binK ‹_› hk)
  · exact .of1 (snd_unK ‹_› hk)
  · exact .of1 (snd_cvK ‹_› hk)
  · rename_i t x ho
    split at hk
    · cases hk
    · rename_i d hn hd
      exact .of hk (snd_makeInterface ho hd (fun ms e => hn ms (by rw [e])))
    · cases hk
  · rename_i f first cap ho
    exact .of hk (snd_makeFunc ho)
  · rename_i t a b ho
    split at hk
    case h_2 => cases hk
    rename_i sz bytes e he
    split at hk
    case h_2 => cases hk
    rename_i z hz
    rcases bsq_inv hk with ⟨hs, hk⟩ | ⟨_, hk⟩
    · obtain ⟨n, hx, hk1⟩ := asInt_inv hk
      have hy : aeval ts b = .rv (.int .i64 n) := by rw [← sameOp_eq hs]; exact hx
      unfold mks at hk1
      split at hk1
      · rename_i hc
        exact .of hk1 (snd_makeSlice ho he hz hx hy hc.1 (Int.le_refl _) hc.2.1 hc.2.2)
      · cases hk1
    · obtain ⟨n, hx, hk⟩ := asInt_inv hk
      obtain ⟨m, hy, hk⟩ := asInt_inv hk
      unfold mkc at hk
      split at hk
      · rename_i hc
        exact .of hk (snd_makeSlice ho he hz hx hy hc.1 hc.2.1 hc.2.2.1 hc.2.2.2)
      · cases hk
  · rename_i t x lo hi ho
    split at hk
    case h_2 => cases hk
    rename_i sz bytes e he
    split at hk
    · exact .of1 (snd_slice (li := none) (ui := none) ho he (fun J M a hs hv => rfl) (fun J M a hs hv => rfl) hk)
    · rename_i l
      obtain ⟨n, hx, hk⟩ := asInt_inv hk
      refine .of1 (snd_slice (li := some n) (ui := none) ho he (fun J M a hs hv => ?_) (fun J M a hs hv => rfl) hk)
      have := eval_rel hs hv l
      rw [hx] at this
      simp [V_int this]
    · rename_i u
      obtain ⟨n, hx, hk⟩ := asInt_inv hk
      refine .of1 (snd_slice (li := none) (ui := some n) ho he (fun J M a hs hv => rfl) (fun J M a hs hv => ?_) hk)
      have := eval_rel hs hv u
      rw [hx] at this
      simp [V_int this]
    · rename_i l u
      obtain ⟨n, hx, hk⟩ := asInt_inv hk
      obtain ⟨m, hy, hk⟩ := asInt_inv hk
      refine .of1 (snd_slice (li := some n) (ui := some m) ho he (fun J M a hs hv => ?_) (fun J M a hs hv => ?_) hk)
      · have := eval_rel hs hv l
        rw [hx] at this
        simp [V_int this]
      · have := eval_rel hs hv u
        rw [hy] at this
        simp [V_int this]
  · rename_i t x i ho
    split at hk
    case h_2 => cases hk
    rename_i off ft hf
    rcases bsq_inv hk with ⟨_, hk⟩ | ⟨h0, hk⟩
    · cases hk
    · exact .of1 (snd_fieldAddr ho hf (fun e => by rw [e] at h0; cases h0) hk)
  · rename_i t x i ho
    split at hk
    case h_2 => cases hk
    rename_i off ft hf
    rcases bsq_inv hk with ⟨hd, hk⟩ | ⟨_, hk⟩
    · obtain ⟨v, hk, hs⟩ := snd_field (h := h) ho hf hd hk
      exact .of (castD_inv hk) hs
    · cases hk
  · rename_i t x i ho
    split at hk
    case h_2 => cases hk
    rename_i sz bytes e he
    obtain ⟨n, hx, hk⟩ := asInt_inv hk
    exact .of1 (snd_indexAddr ho he hx hk)
  · rename_i x s t ho
    split at hk
    · cases hk
    · rename_i d hn hd
      exact .of1 (snd_typeAssert ho hd (fun ms e => hn ms (by rw [e])) hk)
    · cases hk
  · rename_i x i ho
    obtain ⟨v, hk, hs⟩ := snd_extract (P := P) (h := h) ho hk
    exact .of (castD_inv hk) hs
  · rename_i c ho
    unfold callO at hk
    split at hk
    · rename_i f hc
      rcases snd_callV good ho hc hk with ⟨v, h', h1, h2⟩ | ⟨v, h', h1, h2⟩
      · exact .inl ⟨v, h', castD_inv h1, h2⟩
      · exact .inr ⟨v, h', h1, h2⟩
    · cases hk
    · rename_i hc
      split at hk
      case h_2 => cases hk
      rename_i x t ha hct
      split at hk
      · rename_i e hd
        obtain ⟨n, hk, hs⟩ := snd_len (h := h) ho hc ha hct hd hk
        exact .of hk hs
      · rename_i hd
        obtain ⟨n, hk, hs⟩ := snd_lens (h := h) ho hc ha hct hd hk
        exact .of hk hs
      · cases hk
    · rename_i hc
      split at hk
      case h_2 => cases hk
      rename_i x y t u ha hct
      split at hk
      case h_2 => cases hk
      rename_i sz bytes e eu he hu
      rcases bsq_inv hk with ⟨hz, hk⟩ | ⟨_, hk⟩
      · obtain ⟨v, h', h1, h2⟩ := snd_append ho hc ha hct he ⟨_, hu⟩ hz hk
        exact .of h1 h2
      · cases hk
    · cases hk
  · rename_i x ho
    obtain ⟨hk, hx⟩ := pnc_inv hk
    exact .inr ⟨_, _, hk, snd_panic ho hx⟩
  · cases hk
end ops
end Go.Proofs.Ytknphnmhjmejaaa
/-  The abstract machine's regions against the model's: one operation behind the other, and in any order. No conditions. -/
namespace Go.Proofs.Ytknphnmhjmejaaa
set_option linter.unusedVariables false

/-- Where a function began: its maps, its heap, its world, what it has deferred. -/
structure Bs where
  J : Jm
  M : Mm
  h : Hp
  w : World
  D : List Deferred
  /-- May there be ranges over functions? -/
  rng : Bool
/-- What a range over a function leaves among the deferred calls. -/
def mkD (D : Nat) : Deferred := { target := .collected D, args := #[] }
/-- What is deferred: such marks, each one's block there, and what was. -/
def DMk (B : Bs) (ds : List Deferred) (w : World) : Prop := ∃ l : List Nat, ds = l.map mkD ++ B.D ∧ l.Nodup ∧ (∀ D ∈ l, B.w.heap.size ≤ D ∧ w.heap[D]? = some (.deferred (some []))) ∧ (l = [] ∨ B.rng = true)
theorem DMk.none {B : Bs} {w : World} : DMk B B.D w := ⟨[], rfl, by simp, by simp, .inl rfl⟩
theorem DMk.eq {B : Bs} {ds : List Deferred} {w : World} (k : DMk B ds w) (h : B.rng = false) : ds = B.D := by
  obtain ⟨l, h1, _, _, h4⟩ := k
  rcases h4 with rfl | h4
  · exact h1
  · rw [h] at h4; cases h4
theorem DMk.step {B : Bs} {ds : List Deferred} {J M h w J' M' h' w'} (k : DMk B ds w) (hr : HR J M h w) (st : Stp J M h w J' M' h' w') : DMk B ds w' := by
  obtain ⟨l, h1, h2, h3, h6⟩ := k
  refine ⟨l, h1, h2, fun D hD => ?_, h6⟩
  obtain ⟨h4, h5⟩ := h3 D hD
  refine ⟨h4, ?_⟩
  rw [st.fr.block D (Array.getElem?_eq_some_iff.1 h5).1 fun ho => ?_]
  · exact h5
  · obtain ⟨o, ob, e, ho, he, rfl⟩ := ho
    obtain ⟨e', c, t, he', _, hb, _⟩ := hr.ob o ob ho he
    rw [he] at he'
    cases he'
    rw [h5] at hb
    cases hb
def Sim (B : Bs) (σ : St) (a : Act) (w : World) : Prop :=
  ∃ J M, Stp B.J B.M B.h B.w J M σ.heap w ∧ a.tmps.size = σ.tmps.length ∧ Vs J M σ.tmps (fun i => a.tmps[i]?) ∧ DMk B a.defers w
def ExQ (B : Bs) (e : AE) (σ : St) : Exit → Act → World → Prop := fun x a w =>
  match e with
  | .normal => x = .normal ∧ Sim B σ a w
  | .exit i => x = .exit i ∧ Sim B σ a w
  | .ret => x = .ret ∧ Sim B σ a w
  | .pan v => ∃ J M u, x = .panic [{ v := u, recovered := false }] ∧ Stp B.J B.M B.h B.w J M σ.heap w ∧ V J M v u ∧ DMk B a.defers w ∧ a.tmps.size = σ.tmps.length ∧ Vs J M σ.tmps (fun i => a.tmps[i]?)

theorem Vs_set {J M} {ts : List AV} {tm : Array Value} (hs : tm.size = ts.length) (hv : Vs J M ts (fun i => tm[i]?)) (d : Nat) {x : AV} {u : Value} (hV : V J M x u) : Vs J M (ts.set d x) (fun i => (tm.setIfInBounds d u)[i]?) := by
  refine Vs_iff.2 fun i y hy => ?_
  rw [List.getElem?_set] at hy
  by_cases hd : d = i
  · subst hd
    rw [if_pos rfl] at hy
    split at hy
    · rename_i hlt
      cases hy
      have hlt' : d < tm.size := by omega
      exact ⟨u, by simp [hlt'], hV⟩
    · cases hy
  · rw [if_neg hd] at hy
    obtain ⟨v, hv', hV'⟩ := Vs_iff.1 hv _ _ hy
    exact ⟨v, by rw [Array.getElem?_setIfInBounds_ne hd]; exact hv', hV'⟩
theorem Sim.put {B : Bs} {σ : St} {a : Act} {w w' : World} {J M J' M' h'} {d : Option Tmp} {x : AV} {u : Value} (hs : a.tmps.size = σ.tmps.length) (hv : Vs J M σ.tmps (fun i => a.tmps[i]?)) (hd : DMk B a.defers w)
    (st0 : Stp B.J B.M B.h B.w J M σ.heap w) (st : Stp J M σ.heap w J' M' h' w') (hV : V J' M' x u) : Sim B ⟨putA d x σ.tmps, h'⟩ (a.put d u) w' := by
  have hv' : Vs J' M' σ.tmps (fun i => a.tmps[i]?) := Vs_mono st.jle st.mle _ _ _ (fun _ _ k => k) hv
  refine ⟨J', M', st0.trans st, ?_, ?_, ?_⟩
  · cases d <;> simp [Act.put, putA, tset_eq, hs]
  · cases d with
    | none => exact hv'
    | some d =>
      simp only [putA, tset_eq]
      exact Vs_set hs hv' d hV
  · have := hd.step st0.hr st
    cases d <;> exact this
section
variable {P : Program} {Γ : FuncId → Option Callee} {R : Type} {ops : Array Oper}
theorem opRes_wp {o : Oper} {σ : St} {v : AV} {h' : Hp} (H : OpRes P o σ.tmps σ.heap v h') {B : Bs} {a : Act} {w : World} (hs : Sim B σ a w) {next : Act → World → Prop} {Q : Exit → Act → World → Prop}
    (hn : ∀ a' w', Sim B ⟨putA o.dst v σ.tmps, h'⟩ a' w' → next a' w') : o.wp P a w next Q := by
  obtain ⟨J, M, st0, hsz, hv, hd⟩ := hs
  exact H J M w a st0.hr hsz hv next Q fun J' M' w' u st hV => hn _ _ (Sim.put hsz hv hd st0 st hV)
theorem opPan_wp {o : Oper} {σ : St} {v : AV} {h' : Hp} (H : OpPan P o σ.tmps σ.heap v h') {B : Bs} {a : Act} {w : World} (hs : Sim B σ a w) {next : Act → World → Prop} {Q : Exit → Act → World → Prop}
    (hn : ∀ x a' w', ExQ B (.pan v) ⟨σ.tmps, h'⟩ x a' w' → Q x a' w') : o.wp P a w next Q := by
  obtain ⟨J, M, st0, hsz, hv, hd⟩ := hs
  exact H J M w a st0.hr hsz hv next Q fun J' M' w' u st hV => hn _ a w' ⟨J', M', u, rfl, st0.trans st, hV, hd.step st0.hr st, hsz, Vs_mono st.jle st.mle _ _ _ (fun _ _ k => k) hv⟩
/-- A fence that lets all be; in a round of a loop or in none. -/
abbrev FW (r : Option Nat) : Fence := { Fence.wide with round := r }
theorem rowsIn_of {rr : Option Nat} {nn : Nat} {row : String} {args : Array Value} {w : World} {R : Value → World → Prop} (h : Rows P row args w R) : RowsIn (FW rr) nn P row args w R :=
  fun c cs _ => let ⟨v, w', r, s⟩ := h c cs; ⟨v, w', r, stepsIn_wide.2 s⟩
theorem wp_in {o : Oper} (hnd : ∀ c, o.op ≠ .defer c) {rr : Option Nat} {nn : Nat} {a : Act} {w : World} {next : Act → World → Prop} {Q : Exit → Act → World → Prop} (h : o.wp P a w next Q) : o.wpIn (FW rr) nn P a w next Q := by
  refine ⟨fun _ _ => trivial, ?_⟩
  rw [Oper.semAt_eq _ _ _ hnd]
  unfold Oper.wp at h
  generalize (execOp a.eval o).run P w = r at h ⊢
  have hdep : ((FW rr).depth.isSome = true → 1 ≤ nn) := fun h => by cases h
  cases r with
  | ok x w' =>
    cases x with
    | enter f args => exact ⟨hdep, callsIn_wide (n := nn - 1).2 h⟩
    | row r args => exact ⟨hdep, rowsIn_of h⟩
    | value v => exact h
    | skip => exact h
    | defer d => exact h
    | _ => exact h.elim
  | halt x w' =>
    cases x with
    | panic v => exact h
    | _ => exact h.elim
theorem opRes_wpIn {o : Oper} {σ : St} {v : AV} {h' : Hp} (H : OpRes P o σ.tmps σ.heap v h') (hnd : ∀ c, o.op ≠ .defer c) {B : Bs} {a : Act} {w : World} (hs : Sim B σ a w) {rr : Option Nat} {nn : Nat} {next : Act → World → Prop} {Q : Exit → Act → World → Prop}
    (hn : ∀ a' w', Sim B ⟨putA o.dst v σ.tmps, h'⟩ a' w' → next a' w') : o.wpIn (FW rr) nn P a w next Q := wp_in hnd (opRes_wp H hs hn)
theorem opPan_wpIn {o : Oper} {σ : St} {v : AV} {h' : Hp} (H : OpPan P o σ.tmps σ.heap v h') (hnd : ∀ c, o.op ≠ .defer c) {B : Bs} {a : Act} {w : World} (hs : Sim B σ a w) {rr : Option Nat} {nn : Nat} {next : Act → World → Prop} {Q : Exit → Act → World → Prop}
    (hn : ∀ x a' w', ExQ B (.pan v) ⟨σ.tmps, h'⟩ x a' w' → Q x a' w') : o.wpIn (FW rr) nn P a w next Q := wp_in hnd (opPan_wp H hs hn)
theorem aop_nodefer {o : Oper} {σ : St} {K Kp : AV → Hp → Option R} {r : R} (hk : aop P Γ o σ K Kp = some r) : ∀ c, o.op ≠ .defer c := by
  intro c h
  unfold aop at hk
  rw [h] at hk
  cases hk
theorem getD_val {B : Bs} {σ : St} {a : Act} {w : World} (hs : Sim B σ a w) {d : Nat} {x : RV} (hx : σ.tmps.getD d .any = .rv x) : ∃ J M u, a.tmps[d]? = some u ∧ VR M x u ∧ Stp B.J B.M B.h B.w J M σ.heap w := by
  obtain ⟨J, M, st0, hsz, hv, hd⟩ := hs
  rw [List.getD_eq_getElem?_getD] at hx
  cases hg : σ.tmps[d]? with
  | none => rw [hg] at hx; simp at hx
  | some y =>
    rw [hg] at hx
    simp only [Option.getD_some] at hx
    subst hx
    obtain ⟨u, hu, hU⟩ := Vs_iff.1 hv _ _ hg
    exact ⟨J, M, u, hu, by simpa only [V] using hU, st0⟩
theorem wanted_bool {o : Oper} {j : Nat} {want b : Bool} {d : Nat} {a : Act} (hg : o.guard = some (j, want)) (hd : (ops[j]?).bind (·.dst) = some d) (hv : a.tmps[d]? = some (.bool b)) : Region.wanted o (yielded ops a.tmps) = (b == want) := by
  simp only [Region.wanted, hg, yielded, hd, Option.bind_some, hv]
  cases b <;> cases want <;> rfl
theorem wanted_undef {o : Oper} {j : Nat} {want : Bool} {d : Nat} {a : Act} (hg : o.guard = some (j, want)) (hd : (ops[j]?).bind (·.dst) = some d) (hv : a.tmps[d]? = some (.tuple #[])) : Region.wanted o (yielded ops a.tmps) = false := by
  simp only [Region.wanted, hg, yielded, hd, Option.bind_some, hv]
  rfl
theorem undef_sim {B : Bs} {σ : St} {a : Act} {w : World} (hs : Sim B σ a w) (d : Option Tmp) : Sim B ⟨putA d undefA σ.tmps, σ.heap⟩ (a.put d undef) w := by
  obtain ⟨J, M, st0, hsz, hv, hd⟩ := hs
  exact Sim.put hsz hv hd st0 (Stp.refl st0.hr) (by simp [V, VR, undef, VRs])
theorem set_same {B : Bs} {σ : St} {a : Act} {w : World} (hs : Sim B σ a w) {d : Nat} {x : RV} (hx : σ.tmps.getD d .any = .rv x) : σ.tmps.set d (.rv x) = σ.tmps := by
  rw [List.getD_eq_getElem?_getD] at hx
  cases hg : σ.tmps[d]? with
  | none => rw [hg] at hx; simp at hx
  | some y =>
    rw [hg] at hx
    simp only [Option.getD_some] at hx
    subst hx
    obtain ⟨hlt, he⟩ := List.getElem?_eq_some_iff.1 hg
    rw [← he]
    exact List.set_getElem_self hlt
theorem set_same' {ts : List AV} {d : Nat} {x : RV} (hx : ts.getD d .any = .rv x) : ts.set d (.rv x) = ts := by
  rw [List.getD_eq_getElem?_getD] at hx
  cases hg : ts[d]? with
  | none => rw [hg] at hx; simp at hx
  | some y =>
    rw [hg] at hx
    simp only [Option.getD_some] at hx
    subst hx
    obtain ⟨hlt, he⟩ := List.getElem?_eq_some_iff.1 hg
    rw [← he]
    exact List.set_getElem_self hlt
theorem aops_old (dr : Bool) (i : Nat) (is : List Nat) (σ : St) (K : Cont R) : aops P Γ ops dr (i :: is) σ K =
    match ops[i]? with
    | none => aops P Γ ops dr is σ K
    | some o =>
      match o.guard with
      | none => aop P Γ o σ (fun v h => aops P Γ ops dr is ⟨putA o.dst v σ.tmps, h⟩ K) (fun v h => bsq (drl dr is.isEmpty ops.toList) none (K (.pan v) ⟨σ.tmps, h⟩))
      | some (j, want) =>
        match (ops[j]?).bind (·.dst) with
        | none => none
        | some d =>
          match σ.tmps.getD d .any with
          | .rv (.bool b) =>
            bsp b
              (if want = true then aop P Γ o ⟨σ.tmps.set d (ab true), σ.heap⟩ (fun v h => aops P Γ ops dr is ⟨putA o.dst v (σ.tmps.set d (ab true)), h⟩ K) (fun v h => bsq (drl dr is.isEmpty ops.toList) none (K (.pan v) ⟨σ.tmps.set d (ab true), h⟩))
                else aops P Γ ops dr is ⟨putA o.dst undefA (σ.tmps.set d (ab true)), σ.heap⟩ K)
              (if want = true then aops P Γ ops dr is ⟨putA o.dst undefA (σ.tmps.set d (ab false)), σ.heap⟩ K
                else aop P Γ o ⟨σ.tmps.set d (ab false), σ.heap⟩ (fun v h => aops P Γ ops dr is ⟨putA o.dst v (σ.tmps.set d (ab false)), h⟩ K) (fun v h => bsq (drl dr is.isEmpty ops.toList) none (K (.pan v) ⟨σ.tmps.set d (ab false), h⟩)))
          | .rv (.tuple []) => aops P Γ ops dr is ⟨putA o.dst undefA σ.tmps, σ.heap⟩ K
          | _ => none := by
  simp only [aops, fcd_eq, tget_eq, tset_eq]
  cases ops[i]? with
  | none => rfl
  | some o =>
    simp only
    cases o.guard with
    | none => rfl
    | some g =>
      obtain ⟨j, want⟩ := g
      cases want <;> rfl
/-- One operation behind the other. -/
theorem aops_sound (good : Good P Γ) : ∀ (is : List Nat) (σ : St) (K : Cont R) (r : R), aops P Γ ops false is σ K = some r → ∃ e σ', K e σ' = some r ∧ ∀ B a w, Sim B σ a w → wpOps P ops (ExQ B e σ') is a w
  | [], σ, K, r, hk => by
    simp only [aops] at hk
    exact ⟨.normal, σ, hk, fun B a w hs => ⟨rfl, hs⟩⟩
  | i :: is, σ, K, r, hk => by
    rw [aops_old] at hk
    split at hk
    · rename_i ho
      obtain ⟨e, σ', h1, h2⟩ := aops_sound good is σ K r hk
      exact ⟨e, σ', h1, fun B a w hs => by simp only [wpOps, ho]; exact h2 B a w hs⟩
    · rename_i o ho
      have go : ∀ (σ : St) , aop P Γ o σ (fun v h => aops P Γ ops false is ⟨putA o.dst v σ.tmps, h⟩ K) (fun v h => bsq (drl false is.isEmpty ops.toList) none (K (.pan v) ⟨σ.tmps, h⟩)) = some r →
          ∃ e σ', K e σ' = some r ∧ ∀ B a w, Sim B σ a w → Region.wanted o (yielded ops a.tmps) = true → wpOps P ops (ExQ B e σ') (i :: is) a w := by
        intro σ hk
        rcases aop_sound (ts := σ.tmps) (h := σ.heap) good hk with ⟨v, h', hk, H⟩ | ⟨v, h', hk, H⟩
        · obtain ⟨e, σ', h1, h2⟩ := aops_sound good is _ K r hk
          refine ⟨e, σ', h1, fun B a w hs hw => ?_⟩
          simp only [wpOps, ho, hw, if_true]
          exact .inl (opRes_wp H hs fun a' w' hs' => h2 B a' w' hs')
        · refine ⟨.pan v, ⟨σ.tmps, h'⟩, hk, fun B a w hs hw => ?_⟩
          simp only [wpOps, ho, hw, if_true]
          exact .inl (opPan_wp H hs fun x a' w' hx => hx)
      have skip : ∀ (σ : St), aops P Γ ops false is ⟨putA o.dst undefA σ.tmps, σ.heap⟩ K = some r →
          ∃ e σ', K e σ' = some r ∧ ∀ B a w, Sim B σ a w → Region.wanted o (yielded ops a.tmps) = false → wpOps P ops (ExQ B e σ') (i :: is) a w := by
        intro σ hk
        obtain ⟨e, σ', h1, h2⟩ := aops_sound good is _ K r hk
        refine ⟨e, σ', h1, fun B a w hs hw => ?_⟩
        simp only [wpOps, ho, hw, Bool.false_eq_true, if_false]
        exact h2 B _ w (undef_sim hs o.dst)
      split at hk
      · rename_i hg
        obtain ⟨e, σ', h1, h2⟩ := go σ hk
        exact ⟨e, σ', h1, fun B a w hs => h2 B a w hs (by simp [Region.wanted, hg])⟩
      · rename_i j want hg
        split at hk
        · cases hk
        rename_i d hd
        split at hk
        · rename_i b hb
          have hw : ∀ B a w, Sim B σ a w → Region.wanted o (yielded ops a.tmps) = (b == want) := by
            intro B a w hs
            obtain ⟨J, M, u, hu, hU, _⟩ := getD_val hs hb
            simp only [VR] at hU
            subst hU
            exact wanted_bool hg hd hu
          rcases bsp_inv hk with ⟨rfl, hk⟩ | ⟨rfl, hk⟩
          · have hset : σ.tmps.set d (ab true) = σ.tmps := set_same' hb
            rw [hset] at hk
            split at hk
            · rename_i hwt
              obtain ⟨e, σ', h1, h2⟩ := go σ hk
              exact ⟨e, σ', h1, fun B a w hs => h2 B a w hs (by rw [hw B a w hs, hwt]; rfl)⟩
            · rename_i hwt
              obtain ⟨e, σ', h1, h2⟩ := skip σ hk
              exact ⟨e, σ', h1, fun B a w hs => h2 B a w hs (by rw [hw B a w hs]; cases want <;> simp_all)⟩
          · have hset : σ.tmps.set d (ab false) = σ.tmps := set_same' hb
            rw [hset] at hk
            split at hk
            · rename_i hwt
              obtain ⟨e, σ', h1, h2⟩ := skip σ hk
              exact ⟨e, σ', h1, fun B a w hs => h2 B a w hs (by rw [hw B a w hs, hwt]; rfl)⟩
            · rename_i hwt
              obtain ⟨e, σ', h1, h2⟩ := go σ hk
              exact ⟨e, σ', h1, fun B a w hs => h2 B a w hs (by rw [hw B a w hs]; cases want <;> simp_all)⟩
        · rename_i hb
          obtain ⟨e, σ', h1, h2⟩ := skip σ hk
          refine ⟨e, σ', h1, fun B a w hs => h2 B a w hs ?_⟩
          obtain ⟨J, M, u, hu, hU, _⟩ := getD_val hs hb
          simp only [VR] at hU
          obtain ⟨vs, rfl, hsz, _⟩ := hU
          have : vs = #[] := Array.eq_empty_of_size_eq_zero (by simpa using hsz)
          subst this
          exact wanted_undef hg hd hu
        · cases hk
/-- One operation behind the other. -/
theorem aopsIn_sound (good : Good P Γ) : ∀ (is : List Nat) (σ : St) (K : Cont R) (r : R), aops P Γ ops false is σ K = some r → ∃ e σ', K e σ' = some r ∧ ∀ rr nn B a w, Sim B σ a w → wpOpsIn (FW rr) nn P ops (ExQ B e σ') is a w
  | [], σ, K, r, hk => by
    simp only [aops] at hk
    exact ⟨.normal, σ, hk, fun rr nn B a w hs => ⟨rfl, hs⟩⟩
  | i :: is, σ, K, r, hk => by
    rw [aops_old] at hk
    split at hk
    · rename_i ho
      obtain ⟨e, σ', h1, h2⟩ := aopsIn_sound good is σ K r hk
      exact ⟨e, σ', h1, fun rr nn B a w hs => by simp only [wpOpsIn, ho]; exact h2 rr nn B a w hs⟩
    · rename_i o ho
      have go : ∀ (σ : St) , aop P Γ o σ (fun v h => aops P Γ ops false is ⟨putA o.dst v σ.tmps, h⟩ K) (fun v h => bsq (drl false is.isEmpty ops.toList) none (K (.pan v) ⟨σ.tmps, h⟩)) = some r →
          ∃ e σ', K e σ' = some r ∧ ∀ rr nn B a w, Sim B σ a w → Region.wanted o (yielded ops a.tmps) = true → wpOpsIn (FW rr) nn P ops (ExQ B e σ') (i :: is) a w := by
        intro σ hk
        have hnd := aop_nodefer hk
        rcases aop_sound (ts := σ.tmps) (h := σ.heap) good hk with ⟨v, h', hk, H⟩ | ⟨v, h', hk, H⟩
        · obtain ⟨e, σ', h1, h2⟩ := aopsIn_sound good is _ K r hk
          refine ⟨e, σ', h1, fun rr nn B a w hs hw => ?_⟩
          simp only [wpOpsIn, ho, hw, if_true]
          exact opRes_wpIn H hnd hs fun a' w' hs' => h2 rr nn B a' w' hs'
        · refine ⟨.pan v, ⟨σ.tmps, h'⟩, hk, fun rr nn B a w hs hw => ?_⟩
          simp only [wpOpsIn, ho, hw, if_true]
          exact opPan_wpIn H hnd hs fun x a' w' hx => hx
      have skip : ∀ (σ : St), aops P Γ ops false is ⟨putA o.dst undefA σ.tmps, σ.heap⟩ K = some r →
          ∃ e σ', K e σ' = some r ∧ ∀ rr nn B a w, Sim B σ a w → Region.wanted o (yielded ops a.tmps) = false → wpOpsIn (FW rr) nn P ops (ExQ B e σ') (i :: is) a w := by
        intro σ hk
        obtain ⟨e, σ', h1, h2⟩ := aopsIn_sound good is _ K r hk
        refine ⟨e, σ', h1, fun rr nn B a w hs hw => ?_⟩
        simp only [wpOpsIn, ho, hw, Bool.false_eq_true, if_false]
        exact ⟨fun _ _ => trivial, h2 rr nn B _ w (undef_sim hs o.dst)⟩
      split at hk
      · rename_i hg
        obtain ⟨e, σ', h1, h2⟩ := go σ hk
        exact ⟨e, σ', h1, fun rr nn B a w hs => h2 rr nn B a w hs (by simp [Region.wanted, hg])⟩
      · rename_i j want hg
        split at hk
        · cases hk
        rename_i d hd
        split at hk
        · rename_i b hb
          have hw : ∀ B a w, Sim B σ a w → Region.wanted o (yielded ops a.tmps) = (b == want) := by
            intro B a w hs
            obtain ⟨J, M, u, hu, hU, _⟩ := getD_val hs hb
            simp only [VR] at hU
            subst hU
            exact wanted_bool hg hd hu
          rcases bsp_inv hk with ⟨rfl, hk⟩ | ⟨rfl, hk⟩
          · have hset : σ.tmps.set d (ab true) = σ.tmps := set_same' hb
            rw [hset] at hk
            split at hk
            · rename_i hwt
              obtain ⟨e, σ', h1, h2⟩ := go σ hk
              exact ⟨e, σ', h1, fun rr nn B a w hs => h2 rr nn B a w hs (by rw [hw B a w hs, hwt]; rfl)⟩
            · rename_i hwt
              obtain ⟨e, σ', h1, h2⟩ := skip σ hk
              exact ⟨e, σ', h1, fun rr nn B a w hs => h2 rr nn B a w hs (by rw [hw B a w hs]; cases want <;> simp_all)⟩
          · have hset : σ.tmps.set d (ab false) = σ.tmps := set_same' hb
            rw [hset] at hk
            split at hk
            · rename_i hwt
              obtain ⟨e, σ', h1, h2⟩ := skip σ hk
              exact ⟨e, σ', h1, fun rr nn B a w hs => h2 rr nn B a w hs (by rw [hw B a w hs, hwt]; rfl)⟩
            · rename_i hwt
              obtain ⟨e, σ', h1, h2⟩ := go σ hk
              exact ⟨e, σ', h1, fun rr nn B a w hs => h2 rr nn B a w hs (by rw [hw B a w hs]; cases want <;> simp_all)⟩
        · rename_i hb
          obtain ⟨e, σ', h1, h2⟩ := skip σ hk
          refine ⟨e, σ', h1, fun rr nn B a w hs => h2 rr nn B a w hs ?_⟩
          obtain ⟨J, M, u, hu, hU, _⟩ := getD_val hs hb
          simp only [VR] at hU
          obtain ⟨vs, rfl, hsz, _⟩ := hU
          have : vs = #[] := Array.eq_empty_of_size_eq_zero (by simpa using hsz)
          subst this
          exact wanted_undef hg hd hu
        · cases hk
end
end Go.Proofs.Ytknphnmhjmejaaa
/-  The abstract machine's regions whose order is drawn. No conditions. -/
namespace Go.Proofs.Ytknphnmhjmejaaa
set_option linter.unusedVariables false
set_option linter.unusedSimpArgs false

section push
variable {R S : Type} (f : R → Option S)
theorem bsq_push (b : Bool) (x y : Option R) : (bsq b x y).bind f = bsq b (x.bind f) (y.bind f) := by cases b <;> rfl
theorem bsp_push (b : Bool) (x y : Option R) : (bsp b x y).bind f = bsp b (x.bind f) (y.bind f) := by cases b <;> rfl
theorem asInt_push (k : IntKind) (x : AV) (K : Int → Option R) : (asInt k x K).bind f = asInt k x fun n => (K n).bind f := by
  unfold asInt; split
  · split <;> rfl
  · rfl
theorem asBool_push (x : AV) (K : Bool → Option R) : (asBool x K).bind f = asBool x fun n => (K n).bind f := by
  unfold asBool; split <;> rfl
theorem castD_push (d : Option TypeDesc) (x : AV) (K : AV → Option R) : (castD d x K).bind f = castD d x fun n => (K n).bind f := by
  unfold castD; split
  · exact asInt_push f _ _ _
  · exact asBool_push f _ _
  · rfl
theorem ldv_push (h : Hp) (p : AV) (K : AV → Option R) : (ldv h p K).bind f = ldv h p fun n => (K n).bind f := by
  unfold ldv; split <;> rfl
theorem ldi_push (k : IntKind) (h : Hp) (p : AV) (K : Int → Option R) : (ldi k h p K).bind f = ldi k h p fun n => (K n).bind f := by
  unfold ldi; rw [ldv_push]; congr 1; funext x; exact asInt_push f _ _ _
theorem ldb_push (h : Hp) (p : AV) (K : Bool → Option R) : (ldb h p K).bind f = ldb h p fun n => (K n).bind f := by
  unfold ldb; rw [ldv_push]; congr 1; funext x; exact asBool_push f _ _
theorem ldg_push (n : Nat) (h : Hp) (p : AV) (K : AV → Option R) : (ldg n h p K).bind f = ldg n h p fun n => (K n).bind f := by
  unfold ldg; split <;> rfl
theorem stv_push (sz : Nat) (h : Hp) (p v : AV) (K : Hp → Option R) : (stv sz h p v K).bind f = stv sz h p v fun n => (K n).bind f := by
  unfold stv
  split
  · rfl
  split
  · split
    · split <;> rfl
    · rfl
  · rfl
theorem nwc_push (e : Nat) (cs : Option (List AV)) (h : Hp) (K : AV → Hp → Option R) : (nwc e cs h K).bind f = nwc e cs h fun v h => (K v h).bind f := by
  unfold nwc; split <;> rfl
theorem pad_push (p : AV) (n : Nat) (K : AV → Option R) : (pad p n K).bind f = pad p n fun n => (K n).bind f := by
  unfold pad; split <;> rfl
theorem ixa_push (e : Nat) (v : AV) (i : Int) (K : AV → Option R) : (ixa e v i K).bind f = ixa e v i fun n => (K n).bind f := by
  unfold ixa; split
  · split <;> rfl
  · split <;> rfl
  · rfl
theorem lna_push (v : AV) (K : Int → Option R) : (lna v K).bind f = lna v fun n => (K n).bind f := by
  unfold lna; split <;> rfl
theorem lns_push (v : AV) (K : Int → Option R) : (lns v K).bind f = lns v fun n => (K n).bind f := by
  unfold lns; split <;> rfl
theorem nck_push (v : AV) (K : AV → Option R) : (nck v K).bind f = nck v fun n => (K n).bind f := by
  unfold nck; split <;> rfl
theorem pnc_push (v : AV) (K : AV → Option R) : (pnc v K).bind f = pnc v fun n => (K n).bind f := by
  unfold pnc; split <;> rfl
theorem mks_push (e b : Nat) (z : List AV) (h : Hp) (n : Int) (K : AV → Hp → Option R) : (mks e b z h n K).bind f = mks e b z h n fun v h => (K v h).bind f := by
  unfold mks; split <;> rfl
theorem mkc_push (e b : Nat) (z : List AV) (h : Hp) (n m : Int) (K : AV → Hp → Option R) : (mkc e b z h n m K).bind f = mkc e b z h n m fun v h => (K v h).bind f := by
  unfold mkc; split <;> rfl
theorem apn_push (e b : Nat) (h : Hp) (v w : AV) (K : AV → Hp → Option R) : (apn e b h v w K).bind f = apn e b h v w fun v h => (K v h).bind f := by
  unfold apn
  split
  · rfl
  split
  · split
    · rfl
    · split <;> rfl
  · split
    · split <;> rfl
    · rfl
  · rfl
theorem slc_push (e : Nat) (h : Hp) (v : AV) (lo hi : Option Int) (K : AV → Option R) : (slc e h v lo hi K).bind f = slc e h v lo hi fun n => (K n).bind f := by
  unfold slc
  split
  · split <;> rfl
  · split <;> rfl
  · split <;> rfl
  · rfl
theorem bld_push (z : List AV) (ps : List (Option (Nat × Nat) × AV)) (K : AV → Option R) : (bld z ps K).bind f = bld z ps fun n => (K n).bind f := by
  unfold bld; split <;> rfl
theorem bsl_push (sz len : Nat) (z : List AV) (ps : List (Option (Nat × Nat) × AV)) (h : Hp) (K : AV → Hp → Option R) : (bsl sz len z ps h K).bind f = bsl sz len z ps h fun v h => (K v h).bind f := by
  unfold bsl; split <;> rfl
theorem fldA_push (n off : Nat) (b : Bool) (x : AV) (K : AV → Option R) : (fldA n off b x K).bind f = fldA n off b x fun n => (K n).bind f := by
  unfold fldA
  split
  · rfl
  split
  · split
    · split <;> rfl
    · rfl
  · rfl
theorem xtr_push (x : AV) (i : Nat) (K : AV → Option R) : (xtr x i K).bind f = xtr x i fun n => (K n).bind f := by
  unfold xtr
  split
  · split <;> rfl
  · split <;> rfl
  · rfl
theorem tasA_push (t : TypeId) (z : Option AV) (x : AV) (K : AV → Option R) : (tasA t z x K).bind f = tasA t z x fun n => (K n).bind f := by
  unfold tasA
  split
  · split
    · rfl
    · split <;> rfl
  · rfl
theorem nilEq_push (g : Bool) (d : Nat) (a : AV) (K : Bool → Option R) : (nilEq g d a K).bind f = nilEq g d a fun n => (K n).bind f := by
  unfold nilEq; split <;> rfl
theorem binA_push (P : Program) (op : BinOp) (t : TypeId) (x y : Operand) (a b : AV) (K : AV → Option R) : (binA P op t x y a b K).bind f = binA P op t x y a b fun n => (K n).bind f := by
  unfold binA
  split
  · split <;> rfl
  · rfl
theorem binK_push (P : Program) (op : BinOp) (t : TypeId) (x y : Operand) (a b : AV) (K : AV → Option R) : (binK P op t x y a b K).bind f = binK P op t x y a b fun n => (K n).bind f := by
  unfold binK
  simp only [bsq_push]
  congr 1
  · split <;> first
      | exact binA_push f ..
      | (simp only [asInt_push]; done)
      | (simp only [asBool_push]; done)
      | (simp only [asInt_push]; congr 1; funext m; congr 1; funext n; split <;> rfl)
  · congr 1
    split
    · exact nilEq_push f ..
    · exact nilEq_push f ..
    · rfl
theorem unK_push (P : Program) (op : UnOp) (a : AV) (K : AV → Option R) : (unK P op a K).bind f = unK P op a fun n => (K n).bind f := by
  unfold unK
  split
  · exact asBool_push f _ _
  · split
    · split <;> rfl
    · rfl
theorem cvK_push (P : Program) (s d : TypeId) (a : AV) (K : AV → Option R) : (cvK P s d a K).bind f = cvK P s d a fun n => (K n).bind f := by
  unfold cvK
  split
  · exact asInt_push f _ _ _
  · rfl
theorem callP_push (F : List RV → Option Res) (h : Hp) (args : List AV) (K Kp : AV → Option R) : (callP F h args K Kp).bind f = callP F h args (fun n => (K n).bind f) (fun n => (Kp n).bind f) := by
  unfold callP
  split
  · split
    · split <;> rfl
    · split <;> rfl
    · rfl
  · rfl
theorem callC_push (Γ : FuncId → Option Callee) (g : FuncId) (h : Hp) (args : List AV) (K Kp : AV → Hp → Option R) : (callC Γ g h args K Kp).bind f = callC Γ g h args (fun v h => (K v h).bind f) (fun v h => (Kp v h).bind f) := by
  unfold callC
  split
  · exact callP_push f ..
  · unfold callG; split <;> rfl
  · rfl
theorem callV_push (Γ : FuncId → Option Callee) (g : AV) (h : Hp) (args : List AV) (K Kp : AV → Hp → Option R) : (callV Γ g h args K Kp).bind f = callV Γ g h args (fun v h => (K v h).bind f) (fun v h => (Kp v h).bind f) := by
  unfold callV
  split
  · exact callC_push f ..
  · rfl
end push

inductive Out where
  | val (v : AV) (h : Hp)
  | pan (v : AV) (h : Hp)
section
variable (P : Program) (Γ : FuncId → Option Callee) {R : Type}
/-- An operation as a function. -/
noncomputable def aopO (o : Oper) (σ : St) : Option Out := aop P Γ o σ (fun v h => some (.val v h)) (fun v h => some (.pan v h))
def outK (K Kp : AV → Hp → Option R) : Out → Option R
  | .val v h => K v h
  | .pan v h => Kp v h
theorem callO_push {S : Type} (f : R → Option S) (type : TypeId) (c : Call) (ev : Operand → AV) (h : Hp) (K Kp : AV → Hp → Option R) : (callO P Γ type c ev h K Kp).bind f = callO P Γ type c ev h (fun v h => (K v h).bind f) (fun v h => (Kp v h).bind f) := by
  unfold callO
  split
  · rw [callV_push]; congr 1; funext v h; exact castD_push f ..
  · rfl
  · split
    · split
      · exact lna_push f ..
      · exact lns_push f ..
      · rfl
    · rfl
  · split
    · split
      · rw [bsq_push, apn_push]; rfl
      · rfl
    · rfl
  · rfl
theorem aop_push {S : Type} (f : R → Option S) (o : Oper) (σ : St) (K Kp : AV → Hp → Option R) : (aop P Γ o σ K Kp).bind f = aop P Γ o σ (fun v h => (K v h).bind f) (fun v h => (Kp v h).bind f) := by
  unfold aop
  simp only
  split
  · rfl
  · rfl
  · rw [asBool_push]; congr 1; funext t; exact bsp_push f ..
  · exact nwc_push f ..
  · exact nwc_push f ..
  · split
    · rw [bsq_push, bld_push]; rfl
    · rfl
  · split
    · split
      · rw [bsq_push, bsl_push]; rfl
      · rfl
    · rfl
  · split
    · rfl
    · rw [bsq_push, ldg_push]; rfl
    · rw [bsq_push, ldg_push]; rfl
    · exact ldi_push f ..
    · exact ldb_push f ..
    · exact ldv_push f ..
  · rw [bsq_push, stv_push]; rfl
  · exact nck_push f ..
  · exact binK_push f ..
  · exact unK_push f ..
  · exact cvK_push f ..
  · split <;> rfl
  · rfl
  · split
    · split
      · rw [bsq_push, asInt_push, asInt_push]
        congr 1
        · congr 1; funext n; exact mks_push f ..
        · congr 1; funext n; rw [asInt_push]; congr 1; funext m; exact mkc_push f ..
      · rfl
    · rfl
  · split
    · split
      · exact slc_push f ..
      · rw [asInt_push]; congr 1; funext n; exact slc_push f ..
      · rw [asInt_push]; congr 1; funext n; exact slc_push f ..
      · rw [asInt_push]; congr 1; funext n; rw [asInt_push]; congr 1; funext m; exact slc_push f ..
    · rfl
  · split
    · rw [bsq_push, pad_push]; rfl
    · rfl
  · split
    · rw [bsq_push, fldA_push]; congr 2; funext v; exact castD_push f ..
    · rfl
  · split
    · rw [asInt_push]; congr 1; funext n; exact ixa_push f ..
    · rfl
  · split
    · rfl
    · exact tasA_push f ..
    · rfl
  · rw [xtr_push]; congr 1; funext v; exact castD_push f ..
  · exact callO_push P Γ f ..
  · exact pnc_push f ..
  · rfl
theorem aop_nat (o : Oper) (σ : St) (K Kp : AV → Hp → Option R) : aop P Γ o σ K Kp = (aopO P Γ o σ).bind (outK K Kp) := by
  unfold aopO
  rw [aop_push]
  rfl
/-- What the heap has no part in. -/
theorem aop_free (o : Oper) (hc : calmO Γ o.op = 0) (ts : List AV) : ∃ c : Option AV, ∀ h, aopO P Γ o ⟨ts, h⟩ = c.bind fun v => some (.val v h) := by
  have fin : ∀ (c : Option AV) (h : Hp) (x : Option Out), (c.bind fun v => some (Out.val v h)) = x → x = c.bind fun v => some (.val v h) := fun _ _ _ e => e.symm
  unfold aopO aop
  simp only
  split
  · exact ⟨some _, fun h => rfl⟩
  · exact ⟨some _, fun h => rfl⟩
  · exact ⟨asBool _ fun t => bsp t (some _) (some _), fun h => by rw [asBool_push]; congr 1; funext t; rw [bsp_push]; rfl⟩
  · rename_i e; rw [e] at hc; cases hc
  · rename_i e; rw [e] at hc; cases hc
  · split
    · exact ⟨bsq _ (bld _ _ some) none, fun h => by rw [bsq_push, bld_push]; rfl⟩
    · exact ⟨none, fun h => rfl⟩
  · rename_i e; rw [e] at hc; cases hc
  · rename_i e; rw [e] at hc; cases hc
  · rename_i e; rw [e] at hc; cases hc
  · exact ⟨nck _ some, fun h => by rw [nck_push]; rfl⟩
  · exact ⟨binK P _ _ _ _ _ _ some, fun h => by rw [binK_push]; rfl⟩
  · exact ⟨unK P _ _ some, fun h => by rw [unK_push]; rfl⟩
  · exact ⟨cvK P _ _ _ some, fun h => by rw [cvK_push]; rfl⟩
  · split
    · exact ⟨none, fun h => rfl⟩
    · exact ⟨some _, fun h => rfl⟩
    · exact ⟨none, fun h => rfl⟩
  · exact ⟨some _, fun h => rfl⟩
  · rename_i e; rw [e] at hc; cases hc
  · rename_i e; rw [e] at hc; cases hc
  · split
    · exact ⟨bsq _ none (pad _ _ some), fun h => by rw [bsq_push, pad_push]; rfl⟩
    · exact ⟨none, fun h => rfl⟩
  · split
    · exact ⟨bsq _ (fldA _ _ _ _ fun v => castD _ v some) none, fun h => by rw [bsq_push, fldA_push]; congr 2; funext v; rw [castD_push]; rfl⟩
    · exact ⟨none, fun h => rfl⟩
  · split
    · exact ⟨asInt _ _ fun n => ixa _ _ n some, fun h => by rw [asInt_push]; congr 1; funext n; rw [ixa_push]; rfl⟩
    · exact ⟨none, fun h => rfl⟩
  · split
    · exact ⟨none, fun h => rfl⟩
    · exact ⟨tasA _ _ _ some, fun h => by rw [tasA_push]; rfl⟩
    · exact ⟨none, fun h => rfl⟩
  · exact ⟨xtr _ _ fun v => castD _ v some, fun h => by rw [xtr_push]; congr 1; funext v; rw [castD_push]; rfl⟩
  · rename_i c e
    rw [e] at hc
    unfold callO
    split
    · rename_i fo hf
      exfalso
      obtain ⟨cal, as, ats⟩ := c
      simp only at hf
      subst hf
      cases fo with
      | func g =>
        simp only [calmO] at hc
        split at hc <;> cases hc
      | _ => simp [calmO, calm] at hc
    · exact ⟨none, fun h => rfl⟩
    · split
      · split
        · exact ⟨lna _ fun n => some (ai n), fun h => by rw [lna_push]; rfl⟩
        · exact ⟨lns _ fun n => some (ai n), fun h => by rw [lns_push]; rfl⟩
        · exact ⟨none, fun h => rfl⟩
      · exact ⟨none, fun h => rfl⟩
    · rename_i hf
      exfalso
      obtain ⟨cal, as, ats⟩ := c
      simp only at hf
      subst hf
      simp [calmO, calm] at hc
    · exact ⟨none, fun h => rfl⟩
  · rename_i e; rw [e] at hc; cases hc
  · exact ⟨none, fun h => rfl⟩
end
end Go.Proofs.Ytknphnmhjmejaaa
