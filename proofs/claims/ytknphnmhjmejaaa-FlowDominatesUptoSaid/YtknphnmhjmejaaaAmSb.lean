/-  The abstract machine's operations against the model's. No conditions. -/
import Derived.Test.YtknphnmhjmejaaaAmSa
namespace Go.Proofs.Ytknphnmhjmejaaa
set_option linter.unusedVariables false

section inv
variable {R : Type}
theorem asInt_inv {k : IntKind} {x : AV} {K : Int → Option R} {r : R} (h : asInt k x K = some r) : ∃ n, x = .rv (.int k n) ∧ K n = some r := by
  unfold asInt at h
  split at h
  · split at h
    · rename_i e; subst e; exact ⟨_, rfl, h⟩
    · cases h
  · cases h
theorem asBool_inv {x : AV} {K : Bool → Option R} {r : R} (h : asBool x K = some r) : ∃ b, x = .rv (.bool b) ∧ K b = some r := by
  unfold asBool at h
  split at h
  · exact ⟨_, rfl, h⟩
  · cases h
theorem bsq_inv {b : Bool} {x y : Option R} {r : R} (h : bsq b x y = some r) : (b = true ∧ x = some r) ∨ (b = false ∧ y = some r) := by
  cases b
  · exact .inr ⟨rfl, h⟩
  · exact .inl ⟨rfl, h⟩
theorem asInt0_eq (k : IntKind) (x : AV) (K : Int → Option R) : asInt0 k x K = asInt k x K := rfl
theorem asBool0_eq (x : AV) (K : Bool → Option R) : asBool0 x K = asBool x K := rfl
theorem bsp_inv {b : Bool} {x y : Option R} {r : R} (h : bsp b x y = some r) : (b = true ∧ x = some r) ∨ (b = false ∧ y = some r) := by
  cases b
  · exact .inr ⟨rfl, h⟩
  · exact .inl ⟨rfl, h⟩
theorem castD_inv {d : Option TypeDesc} {x : AV} {K : AV → Option R} {r : R} (h : castD d x K = some r) : K x = some r := by
  unfold castD at h
  split at h
  · obtain ⟨n, rfl, hk⟩ := asInt_inv h; exact hk
  · obtain ⟨n, rfl, hk⟩ := asBool_inv h; exact hk
  · exact h
theorem ldv_inv {h : Hp} {p : AV} {K : AV → Option R} {r : R} (k : ldv h p K = some r) : ∃ x, cellAt h p 0 = some x ∧ K x = some r := by
  unfold ldv at k
  split at k
  · exact ⟨_, ‹_›, k⟩
  · cases k
end inv

/-- An operation's own word: whatever stands for the state, it yields what stands for v, and leaves what stands for the new heap. -/
def OpRes (P : Program) (o : Oper) (ts : List AV) (h : Hp) (v : AV) (h' : Hp) : Prop :=
  ∀ J M w (a : Act), HR J M h w → a.tmps.size = ts.length → Vs J M ts (fun i => a.tmps[i]?) →
    ∀ (next : Act → World → Prop) (Q : Exit → Act → World → Prop), (∀ J' M' w' u, Stp J M h w J' M' h' w' → V J' M' v u → next (a.put o.dst u) w') → o.wp P a w next Q
def OpPan (P : Program) (o : Oper) (ts : List AV) (h : Hp) (v : AV) (h' : Hp) : Prop :=
  ∀ J M w (a : Act), HR J M h w → a.tmps.size = ts.length → Vs J M ts (fun i => a.tmps[i]?) →
    ∀ (next : Act → World → Prop) (Q : Exit → Act → World → Prop), (∀ J' M' w' u, Stp J M h w J' M' h' w' → V J' M' v u → Q (.panic [{ v := u, recovered := false }]) a w') → o.wp P a w next Q
theorem wp_val {P : Program} {o : Oper} {a : Act} {w w' : World} {u : Value} {next : Act → World → Prop} {Q : Exit → Act → World → Prop}
    (h : (execOp a.eval o).run P w = .ok (.value u) w') (k : next (a.put o.dst u) w') : o.wp P a w next Q := by
  unfold Oper.wp; rw [h]; exact k
theorem wp_skp {P : Program} {o : Oper} {a : Act} {w w' : World} {next : Act → World → Prop} {Q : Exit → Act → World → Prop}
    (h : (execOp a.eval o).run P w = .ok .skip w') (k : next (a.put o.dst undef) w') : o.wp P a w next Q := by
  unfold Oper.wp; rw [h]; exact k
theorem eval_rel {J M} {ts : List AV} {a : Act} (hs : a.tmps.size = ts.length) (hv : Vs J M ts (fun i => a.tmps[i]?)) (x : Operand) : V J M (aeval ts x) (a.eval x) := by
  cases x with
  | tmp t =>
    simp only [aeval, Act.eval, tget_eq, List.getD_eq_getElem?_getD]
    cases ht : ts[t]? with
    | none => simp [V]
    | some y =>
      obtain ⟨v, hv', hV⟩ := Vs_iff.1 hv _ _ ht
      simp only [Option.getD_some, Array.getD_eq_getD_getElem?, hv']
      exact hV
  | const v => exact V_ofVal v
  | global g => simp [aeval, V]
  | func f => simp only [aeval, Act.eval, V]; exact ⟨#[], #[], rfl, ⟨rfl, by simp [Vs]⟩, rfl, by simp [Vs]⟩
theorem Vs_map {J M} {ts : List AV} {a : Act} (hs : a.tmps.size = ts.length) (hv : Vs J M ts (fun i => a.tmps[i]?)) (l : List Operand) :
    Vs J M (l.map (aeval ts)) (fun i => (l.map a.eval)[i]?) := by
  refine Vs_iff.2 fun i x hx => ?_
  rw [List.getElem?_map, Option.map_eq_some_iff] at hx
  obtain ⟨y, hy, rfl⟩ := hx
  exact ⟨a.eval y, by simp [hy], eval_rel hs hv y⟩

section ops
variable {P : Program} {Γ : FuncId → Option Callee} {R : Type} {o : Oper} {ts : List AV} {h : Hp} {K Kp : AV → Hp → Option R} {r : R}

/-- What changes nothing and gives a value. -/
theorem OpRes.still {v : AV} (H : ∀ J M w (a : Act), HR J M h w → a.tmps.size = ts.length → Vs J M ts (fun i => a.tmps[i]?) → ∃ u, (execOp a.eval o).run P w = .ok (.value u) w ∧ V J M v u) :
    OpRes P o ts h v h := by
  intro J M w a hr hs hv next Q hn
  obtain ⟨u, hu, hV⟩ := H J M w a hr hs hv
  exact wp_val hu (hn J M w u (Stp.refl hr) hV)
theorem snd_move {x : Operand} (ho : o.op = .move x) : OpRes P o ts h (aeval ts x) h :=
  OpRes.still fun J M w a hr hs hv => ⟨a.eval x, by simp [execOp, ho], eval_rel hs hv x⟩
theorem snd_assign {x : Operand} (ho : o.op = .assign x) : OpRes P o ts h (aeval ts x) h :=
  OpRes.still fun J M w a hr hs hv => ⟨a.eval x, by simp [execOp, ho], eval_rel hs hv x⟩
theorem snd_pick {c x y : Operand} {b : Bool} (ho : o.op = .pick c x y) (hc : aeval ts c = .rv (.bool b)) : OpRes P o ts h (if b then aeval ts x else aeval ts y) h := by
  refine OpRes.still fun J M w a hr hs hv => ?_
  have hb := eval_rel hs hv c
  rw [hc] at hb
  simp only [V, VR] at hb
  refine ⟨if b then a.eval x else a.eval y, by simp [execOp, ho, hb, Go.asBool], ?_⟩
  cases b
  · exact eval_rel hs hv y
  · exact eval_rel hs hv x
/-- A new variable. -/
theorem OpRes.new {esz : Nat} {l : List AV} {g : AV} (hg : g = .ptr h.length 0 0 ∨ ∃ n, g = .sl h.length 0 0 n)
    (H : ∀ J M w (a : Act), HR J M h w → a.tmps.size = ts.length → Vs J M ts (fun i => a.tmps[i]?) →
      ∃ c t, Vs J M l (fun i => c[i]?) ∧ ((g = .ptr h.length 0 0 ∧ (execOp a.eval o).run P w = .ok (.value (.pointer (some ⟨w.heap.size, 0, none⟩))) (w.alloc (.cells c t))) ∨
        ∃ n m, g = .sl h.length 0 0 n ∧ n ≤ m ∧ m * esz ≤ c.size ∧ (execOp a.eval o).run P w = .ok (.value (.slice (some ⟨w.heap.size, 0, none⟩) n m)) (w.alloc (.cells c t)))) :
    OpRes P o ts h g (h ++ [⟨0, esz, l⟩]) := by
  intro J M w a hr hs hv next Q hn
  obtain ⟨c, t, hl, hx⟩ := H J M w a hr hs hv
  have st := HR.push hr esz l c t hl
  rcases hx with ⟨rfl, hrun⟩ | ⟨n, m, rfl, hnm, hsz, hrun⟩
  · exact wp_val hrun (hn _ _ _ _ st (by simp only [V]; exact ⟨⟨w.heap.size, c.size, esz⟩, by simp [newJ], rfl⟩))
  · exact wp_val hrun (hn _ _ _ _ st (by simp only [V]; exact ⟨⟨w.heap.size, c.size, esz⟩, by simp [newJ], _, m, rfl, hnm, .inr ⟨rfl, by simpa using hsz⟩⟩))
theorem zeroA_inv {t : TypeId} {l : List AV} (hz : zeroA P t = some l) : ∃ i z, P.info? t = some i ∧ i.zero = some z ∧ l = z.cells.toList.map ofVal := by
  unfold zeroA at hz
  split at hz
  · split at hz
    · simp only [Option.some.injEq] at hz
      exact ⟨_, _, ‹_›, ‹_›, hz.symm⟩
    · cases hz
  · cases hz
theorem run_zeroValue {t : TypeId} {i : TypeInfo} {z : Value} (hi : P.info? t = some i) (hz : i.zero = some z) (w : World) : (zeroValue t).run P w = .ok z w := by
  simp [zeroValue, typeInfo, hi, hz]
theorem Vs_zero {J M} (c : Array Value) : Vs J M (c.toList.map ofVal) (fun i => c[i]?) := by
  refine Vs_iff.2 fun i x hx => ?_
  rw [List.getElem?_map, Option.map_eq_some_iff] at hx
  obtain ⟨y, hy, rfl⟩ := hx
  exact ⟨y, by simpa using hy, V_ofVal y⟩
theorem snd_alloc {t : TypeId} {l : List AV} (ho : o.op = .alloc t) (hz : zeroA P t = some l) : OpRes P o ts h (.ptr h.length 0 0) (h ++ [⟨0, 1, l⟩]) := by
  obtain ⟨i, z, hi, hzz, rfl⟩ := zeroA_inv hz
  refine OpRes.new (.inl rfl) fun J M w a hr hs hv => ⟨z.cells, t, Vs_zero _, .inl ⟨rfl, ?_⟩⟩
  simp [execOp, ho, Instr.alloc, run_zeroValue hi hzz, newVar, newRow]
theorem snd_box {t : TypeId} {x : Operand} {l : List AV} (ho : o.op = .box t x) (hl : vcells (aeval ts x) = some l) : OpRes P o ts h (.ptr h.length 0 0) (h ++ [⟨0, 1, l⟩]) := by
  refine OpRes.new (.inl rfl) fun J M w a hr hs hv => ⟨(a.eval x).cells, t, (vcells_sound (eval_rel hs hv x) hl).2, .inl ⟨rfl, ?_⟩⟩
  simp [execOp, ho, Instr.box, newVar, newRow]
theorem isAgg_run {t : TypeId} {d : TypeDesc} (hd : P.underlying t = some d) (w : World) : (isAgg t).run P w = .ok (isAggD (some d)) w := by
  unfold isAgg
  simp only [Sem.run_bind]
  have : (underlying t).run P w = .ok d w := by simp [underlying, hd]
  rw [this]
  cases d <;> simp [isAggD]
theorem sizeOf_run {t : TypeId} {i : TypeInfo} (hi : P.info? t = some i) (w : World) : (sizeOf t).run P w = .ok i.size w := by simp [sizeOf, typeInfo, hi]
theorem info_of_underlying {t : TypeId} {d : TypeDesc} (hd : P.underlying t = some d) : ∃ i, P.info? t = some i := by
  unfold Program.underlying at hd
  cases hi : P.info? t with
  | none => rw [hi] at hd; cases hd
  | some i => exact ⟨i, rfl⟩
theorem cellsOf_eq {t : TypeId} {i : TypeInfo} (hi : P.info? t = some i) : P.cellsOf t = i.size := by simp [Program.cellsOf, hi]
theorem underlying_run {t : TypeId} {d : TypeDesc} (hd : P.underlying t = some d) (w : World) : (underlying t).run P w = .ok d w := by simp [underlying, hd]
theorem loadVar_one {t : TypeId} {d : TypeDesc} (hd : P.underlying t = some d) (ha : isAggD (some d) = false) {ad : Addr} {w : World} {v : Value} (hc : w.cell? ad = some v) :
    (loadVar t ad).run P w = .ok v w := by
  simp [loadVar, isAgg_run hd, ha, hc]
theorem loadVar_agg {t : TypeId} {d : TypeDesc} (hd : P.underlying t = some d) (ha : isAggD (some d) = true) {ad : Addr} {w : World} {vs : List Value} (hn : vs.length = P.cellsOf t)
    (hc : ∀ i v, vs[i]? = some v → w.cell? (ad.add i) = some v) : (loadVar t ad).run P w = .ok (.agg vs.toArray) w := by
  obtain ⟨i, hi⟩ := info_of_underlying hd
  rw [cellsOf_eq hi] at hn
  simp only [loadVar, Sem.run_bind, isAgg_run hd, Result.andThen_ok, ha, if_true, sizeOf_run hi]
  rw [← hn, run_loadCells_list w ad vs hc]
  simp
theorem add_zero (a : Addr) : a.add 0 = a := by simp [Addr.add]
theorem snd_load1 {t : TypeId} {x : Operand} {d : TypeDesc} {v : AV} (ho : o.op = .load t x) (hd : P.underlying t = some d) (ha : isAggD (some d) = false) (hx : cellAt h (aeval ts x) 0 = some v) :
    OpRes P o ts h v h := by
  refine OpRes.still fun J M w a hr hs hv => ?_
  obtain ⟨ad, u, hu, hc, hV⟩ := cellAt_sound hr (eval_rel hs hv x) hx
  rw [add_zero] at hc
  exact ⟨u, by simp [execOp, ho, Instr.loadAt, hu, Instr.sureAddr, loadVar_one hd ha hc], hV⟩
theorem snd_loadg {t : TypeId} {x : Operand} {d : TypeDesc} {l : List AV} (ho : o.op = .load t x) (hd : P.underlying t = some d) (ha : isAggD (some d) = true) (hn : P.cellsOf t ≠ 0)
    (hx : cellsN h (aeval ts x) 0 (P.cellsOf t) = some l) : OpRes P o ts h (.agg l) h := by
  refine OpRes.still fun J M w a hr hs hv => ?_
  obtain ⟨h0, hlen, H⟩ := cellsN_sound hr (eval_rel hs hv x) _ _ _ hx
  obtain ⟨ad, hu⟩ := h0.resolve_left hn
  obtain ⟨vs, hvl, hvc, hvV⟩ := H ad hu
  refine ⟨.agg vs.toArray, by simp [execOp, ho, Instr.loadAt, hu, Instr.sureAddr, loadVar_agg hd ha hvl (fun i v hi => by simpa using hvc i v hi)], ?_⟩
  simp only [V]
  exact ⟨_, rfl, by simp [hvl, hlen], by simpa using hvV⟩

/-! ### Writing -/
theorem setAt_length : ∀ (cs l : List AV) (off : Nat), (setAt l off cs).length = l.length
  | [], l, off => rfl
  | c :: cs, l, off => by simp only [setAt]; rw [setAt_length cs]; simp
theorem oneA_sound {J M} {x : AV} {v : Value} (hx : oneA x = true) (hV : V J M x v) : v.oneCell' = true := by
  cases x with
  | rv y => cases y <;> simp [oneA] at hx <;> simp only [V, VR] at hV <;> (try subst hV) <;> (try rfl) <;> (first | (obtain ⟨_, rfl, _⟩ := hV; rfl) | (obtain ⟨_, _, rfl, _⟩ := hV; rfl))
  | ptr => simp only [V] at hV; obtain ⟨_, _, rfl⟩ := hV; rfl
  | sl => simp only [V] at hV; obtain ⟨_, _, _, _, rfl, _⟩ := hV; rfl
  | func => simp only [V] at hV; obtain ⟨_, _, rfl, _⟩ := hV; rfl
  | iface => simp only [V] at hV; obtain ⟨_, rfl, _⟩ := hV; rfl
  | any => simp [oneA] at hx
  | agg => simp [oneA] at hx
  | tuple => simp [oneA] at hx
/-- An object is given other cells, in the same block, or (its stamp turned) in a new one. -/
theorem HR.put {J M h w} (r : HR J M h w) {o : Nat} {ob : Ob} {e : JE} (ho : h[o]? = some ob) (he : J o ob.ver = some e) {cells' : List AV} {c' : Array Value} {t : TypeId} {w' : World}
    (hw : w'.heap[e.b]? = some (.cells c' t (0, 0))) (hn : c'.size = e.n) (hl : Vs J M cells' (fun i => c'[i]?)) (hfr : Fr (fun b => b = e.b) w w') :
    Stp J M h w J M (h.set o { ob with cells := cells' }) w' := by
  have hlt := (List.getElem?_eq_some_iff.1 ho).1
  have cases' : ∀ o2 ob2, (h.set o { ob with cells := cells' })[o2]? = some ob2 → (o2 = o ∧ ob2 = { ob with cells := cells' }) ∨ (o2 ≠ o ∧ h[o2]? = some ob2) := by
    intro o2 ob2 h2
    rw [List.getElem?_set] at h2
    split at h2
    · rename_i e
      subst e
      simp only [Option.some.injEq] at h2
      exact .inl ⟨rfl, h2.symm⟩
    · rename_i hne; exact .inr ⟨fun e => hne e.symm, h2⟩
  have elt := owned_lt r ⟨o, ob, e, ho, he, rfl⟩
  have hr : HR J M (h.set o { ob with cells := cells' }) w' := by
    refine ⟨?_, ?_, ?_, ?_, ?_⟩
    · intro o2 ob2 h2
      rcases cases' o2 ob2 h2 with ⟨rfl, rfl⟩ | ⟨hne, h2⟩
      · obtain ⟨e', c0, t0, he', hs, _⟩ := r.ob o2 ob ho
        rw [he] at he'; cases he'
        exact ⟨e, c', t, he, hs, hw, hn, hl⟩
      · obtain ⟨e2, c2, t2, he2, hs2, hb2, hn2, hv2⟩ := r.ob o2 ob2 h2
        refine ⟨e2, c2, t2, he2, hs2, ?_, hn2, hv2⟩
        rw [hfr.block _ (lt_of_cells hb2) (fun hb => hne (r.inj _ _ _ _ _ _ h2 ho he2 he hb))]
        exact hb2
    · intro o2 v2 e2 k
      obtain ⟨ob2, hb2, hle⟩ := r.key _ _ _ k
      by_cases hne : o2 = o
      · subst hne
        rw [ho] at hb2; cases hb2
        exact ⟨{ ob with cells := cells' }, by simp [hlt], hle⟩
      · exact ⟨ob2, by rw [List.getElem?_set, if_neg (fun e => hne e.symm)]; exact hb2, hle⟩
    · intro o1 o2 ob1 ob2 e1 e2 h1 h2 k1 k2 hb
      have f1 : ∃ b1, h[o1]? = some b1 ∧ b1.ver = ob1.ver := by
        rcases cases' _ _ h1 with ⟨rfl, rfl⟩ | ⟨_, h1⟩
        · exact ⟨ob, ho, rfl⟩
        · exact ⟨ob1, h1, rfl⟩
      have f2 : ∃ b2, h[o2]? = some b2 ∧ b2.ver = ob2.ver := by
        rcases cases' _ _ h2 with ⟨rfl, rfl⟩ | ⟨_, h2⟩
        · exact ⟨ob, ho, rfl⟩
        · exact ⟨ob2, h2, rfl⟩
      obtain ⟨b1, g1, v1⟩ := f1
      obtain ⟨b2, g2, v2⟩ := f2
      exact r.inj _ _ _ _ _ _ g1 g2 (by rw [v1]; exact k1) (by rw [v2]; exact k2) hb
    · intro ad v k
      have hc := r.im ad v k
      have hb := World.block_lt_of_cell? _ _ hc
      rw [World.cell?_of_block (w := w) (hfr.block ad.block hb (fun e' => r.sep ad v o ob e k ho he e'))]
      exact hc
    · intro ad v o2 ob2 e2 k h2 k2
      rcases cases' _ _ h2 with ⟨rfl, rfl⟩ | ⟨_, h2⟩
      · rw [he] at k2; cases k2; exact r.sep ad v o2 ob e k ho he
      · exact r.sep _ _ _ _ _ k h2 k2
  have own : ∀ b, owned J (h.set o { ob with cells := cells' }) b → owned J h b := by
    rintro b ⟨o2, ob2, e2, h2, k2, rfl⟩
    rcases cases' _ _ h2 with ⟨rfl, rfl⟩ | ⟨_, h2⟩
    · exact ⟨o2, ob, e2, ho, k2, rfl⟩
    · exact ⟨o2, ob2, e2, h2, k2, rfl⟩
  refine ⟨JLe.refl J, MLe.refl M, hr, by simp, ⟨hfr.os, hfr.tape, hfr.output, hfr.size, fun b hb hno => hfr.block b hb (fun e' => hno ⟨o, ob, e, ho, he, e'.symm⟩)⟩, fun _ _ k => .inl k, fun b k => .inl (own b k)⟩
/-- Cells stored one behind the other into a block of one's own. -/
theorem run_stores {J M} {b : Nat} {t : TypeId} : ∀ (vs : List Value) (cs : List AV) (off i : Nat) (l : List AV) (c : Array Value) (w : World), w.heap[b]? = some (.cells c t (0, 0)) → vs.length = cs.length →
    Vs J M cs (fun i => vs[i]?) → (∀ x, x ∈ cs → oneA x = true) → off + i + cs.length ≤ l.length → Vs J M l (fun i => c[i]?) →
    ∃ c' w', (storeCells ⟨b, off, none⟩ vs i).run P w = .ok () w' ∧ w'.heap[b]? = some (.cells c' t (0, 0)) ∧ c'.size = c.size ∧ Vs J M (setAt l (off + i) cs) (fun i => c'[i]?) ∧ Fr (fun x => x = b) w w'
  | [], cs, off, i, l, c, w, hw, hlen, _, _, _, hl => by
    cases cs with
    | nil => exact ⟨c, w, by simp [storeCells], hw, rfl, by simpa [setAt] using hl, Fr.refl _ w⟩
    | cons => simp at hlen
  | v :: vs, cs, off, i, l, c, w, hw, hlen, hcs, hone, hle, hl => by
    cases cs with
    | nil => simp at hlen
    | cons x cs =>
      simp only [Vs] at hcs
      obtain ⟨⟨v0, hv0, hV0⟩, hrest⟩ := hcs
      simp only [List.getElem?_cons_zero, Option.some.injEq] at hv0
      subst hv0
      have hlt : off + i < l.length := by simp at hle; omega
      have hc : off + i < c.size := by
        obtain ⟨u, hu, _⟩ := Vs_iff.1 hl (off + i) l[off + i] (List.getElem?_eq_getElem hlt)
        exact (Array.getElem?_eq_some_iff.1 hu).1
      have hcell : w.cell? ⟨b, off + i, none⟩ = some c[off + i] := by rw [cell_of_cells hw]; simp [hc]
      have hfz : w.frozen? ⟨b, off + i, none⟩ = false := frozen_of_row w b _ c t hw
      have hw1 : (w.setCell ⟨b, off + i, none⟩ v).heap[b]? = some (.cells (c.setIfInBounds (off + i) v) t (0, 0)) := heap_setCell_same w b _ c t v hw
      have hV1 : Vs J M (l.set (off + i) x) (fun j => (c.setIfInBounds (off + i) v)[j]?) := by
        refine Vs_iff.2 fun j y hy => ?_
        rw [List.getElem?_set] at hy
        by_cases hj : off + i = j
        · subst hj
          rw [if_pos rfl, if_pos hlt] at hy
          cases hy
          exact ⟨v, by simp [hc], hV0⟩
        · rw [if_neg hj] at hy
          obtain ⟨u, hu, hU⟩ := Vs_iff.1 hl _ _ hy
          exact ⟨u, by rw [Array.getElem?_setIfInBounds_ne hj]; exact hu, hU⟩
      obtain ⟨c', w', hrun, hw', hsz, hV', hfr'⟩ := run_stores (J := J) (M := M) (t := t) vs cs off (i + 1) (l.set (off + i) x) _ _ hw1 (by simpa using hlen) (by simpa using hrest)
        (fun y hy => hone y (List.mem_cons_of_mem _ hy)) (by simp at hle ⊢; omega) hV1
      refine ⟨c', w', ?_, hw', by rw [hsz]; simp, by simpa only [setAt, Nat.add_assoc] using hV', ?_⟩
      · simp only [storeCells, Sem.run_bind, add_none, run_store P w _ v .plain (oneA_sound (hone x (List.mem_cons_self ..)) hV0), hcell, hfz]
        simpa using hrun
      · refine ⟨hfr'.os, hfr'.tape, hfr'.output, by have := hfr'.size; simp at this; exact this, fun k hk hne => ?_⟩
        rw [hfr'.block k (by simpa using hk) hne]
        exact heap_setCell_other w _ k v hne
theorem snd_store {t : TypeId} {x y : Operand} {K' : Hp → Option R} (ho : o.op = .store t x y) (hi : (P.info? t).isSome = true) (hk : stv (P.cellsOf t) h (aeval ts x) (aeval ts y) K' = some r) :
    ∃ h', K' h' = some r ∧ OpRes P o ts h undefA h' := by
  unfold stv at hk
  split at hk
  · cases hk
  rename_i cs hcs
  split at hk
  case h_2 => cases hk
  rename_i ob ver off hx
  split at hk
  case h_2 => cases hk
  rename_i obj hob
  split at hk
  case isFalse => cases hk
  rename_i hc
  obtain ⟨hlen, hver, hoff, hone⟩ := hc
  refine ⟨_, hk, ?_⟩
  intro J M w a hr hs hv next Q hn
  have hX := eval_rel hs hv x
  rw [hx] at hX
  simp only [V] at hX
  obtain ⟨e, he, hax⟩ := hX
  obtain ⟨hys, hyV⟩ := vcells_sound (eval_rel hs hv y) hcs
  obtain ⟨e', c, tt, he', hes, hb, hn', hcv⟩ := hr.ob _ _ hob
  rw [hver, he] at he'
  cases he'
  obtain ⟨c', w', hrun, hw', hsz, hV', hfr⟩ := run_stores (P := P) (J := J) (M := M) (a.eval y).cells.toList cs off 0 obj.cells c w hb (by simp [hys]) (by simpa using hyV)
    (fun z hz => List.all_eq_true.1 hone z hz) (by omega) hcv
  obtain ⟨inf, hinf⟩ := Option.isSome_iff_exists.1 hi
  rw [cellsOf_eq hinf] at hlen
  refine wp_skp (w' := w') ?_ (hn J M w' undef (HR.put hr hob (by rw [hver]; exact he) hw' (by rw [hsz, hn']) (by simpa using hV') hfr) (by simp [V, VR, undef, VRs]))
  simp only [execOp, ho, Instr.storeAt, hax, Instr.sureAddr, storeVar, Sem.run_bind, Sem.run_pure, Result.andThen_ok, sizeOf_run hinf]
  have hne : ¬ ((a.eval y).cells.size ≠ inf.size) := by rw [hys, hlen]; simp
  simp only [hne, if_false, hrun, Result.andThen_ok]

/-! ### Operations that read slots alone -/
theorem snd_nilCheck {x : Operand} {K' : AV → Option R} (ho : o.op = .nilCheck x) (hk : nck (aeval ts x) K' = some r) : ∃ v, K' v = some r ∧ OpRes P o ts h v h := by
  have key : ∀ v, aeval ts x = v → K' v = some r → (∀ J M u, V J M v u → (∃ ad, u = .pointer (some ad)) ∨ ∃ f us vs, u = .func (.func f) us vs) → ∃ v, K' v = some r ∧ OpRes P o ts h v h := by
    intro v hv hkv hu
    refine ⟨v, hkv, OpRes.still fun J M w a hr hs hvs => ⟨a.eval x, ?_, by rw [← hv]; exact eval_rel hs hvs x⟩⟩
    have hx := eval_rel hs hvs x
    rw [hv] at hx
    rcases hu J M _ hx with ⟨ad, e⟩ | ⟨f, us, vs, e⟩ <;> simp [execOp, ho, e]
  unfold nck at hk
  split at hk
  · exact key _ ‹_› hk fun J M u hV => by simp only [V] at hV; obtain ⟨e, _, rfl⟩ := hV; exact .inl ⟨_, rfl⟩
  · exact key _ ‹_› hk fun J M u hV => by simp only [V, VR] at hV; obtain ⟨e, rfl, _⟩ := hV; exact .inl ⟨_, rfl⟩
  · exact key _ ‹_› hk fun J M u hV => by simp only [V] at hV; obtain ⟨us, vs, rfl, _⟩ := hV; exact .inr ⟨_, _, _, rfl⟩
  · cases hk
theorem purely_run {α : Type} : ∀ (s : Sem α) (x : α) (w : World), purely P s = some x → s.run P w = .ok x w
  | .pure a, x, w, k => by simp only [purely, Option.some.injEq] at k; subst k; rfl
  | .program f, x, w, k => by simp only [purely] at k; exact purely_run (f P) x w k
  | .mark _ f, x, w, k => by simp only [purely] at k; exact purely_run f x w k
  | .load .., x, w, k | .store .., x, w, k | .new .., x, w, k | .shape .., x, w, k | .freeze .., x, w, k | .frozen .., x, w, k | .getObj .., x, w, k | .setObj .., x, w, k | .choose .., x, w, k | .sys .., x, w, k | .halt .., x, w, k => by simp [purely] at k
theorem snd_binA {op : BinOp} {t : TypeId} {x y : Operand} {t2 : TypeId} {K' : AV → Option R} (ho : o.op = .binOp op t x y t2) (hk : binA P op t x y (aeval ts x) (aeval ts y) K' = some r) :
    ∃ v, K' v = some r ∧ OpRes P o ts h v h := by
  unfold binA at hk
  split at hk
  case h_2 => cases hk
  rename_i u v hu hv
  split at hk
  case h_2 => cases hk
  rename_i z hz
  refine ⟨_, hk, OpRes.still fun J M w a hr hs hvs => ⟨z, ?_, V_ofVal z⟩⟩
  rw [← V_toVal hu (eval_rel hs hvs x), ← V_toVal hv (eval_rel hs hvs y)] at hz
  have := purely_run _ _ w hz
  simp only [Sem.run_bind] at this
  simp only [execOp, ho, Sem.run_bind, Sem.run_pure]
  revert this
  generalize (eqGuard op t x y (a.eval x) (a.eval y)).run P w = e1
  cases e1 with
  | ok _ w1 => intro this; simp only [Result.andThen_ok] at this ⊢; rw [this]; rfl
  | halt _ _ => intro this; simp at this
theorem V_int {J M} {k : IntKind} {n : Int} {v : Value} (hV : V J M (.rv (.int k n)) v) : v = .int k n := by simpa only [V, VR] using hV
theorem V_bool {J M} {b : Bool} {v : Value} (hV : V J M (.rv (.bool b)) v) : v = .bool b := by simpa only [V, VR] using hV
theorem V_int' {J M} (k : IntKind) (n : Int) : V J M (.rv (.int k n)) (.int k n) := by simp only [V, VR]
theorem V_bool' {J M} (b : Bool) : V J M (.rv (.bool b)) (.bool b) := by simp only [V, VR]
theorem eqGuard_int (op : BinOp) (t : TypeId) (x y : Operand) (k k' : IntKind) (m n : Int) (w : World) : (eqGuard op t x y (.int k m) (.int k' n)).run P w = .ok () w := by
  unfold eqGuard; split <;> simp
theorem eqGuard_bool (op : BinOp) (t : TypeId) (x y : Operand) (m n : Bool) (w : World) : (eqGuard op t x y (.bool m) (.bool n)).run P w = .ok () w := by
  unfold eqGuard; split <;> simp
theorem snd_int {op : BinOp} {t : TypeId} {x y : Operand} {t2 : TypeId} {k : IntKind} {m n : Int} {u : Value} {v : AV} (ho : o.op = .binOp op t x y t2)
    (hx : aeval ts x = .rv (.int k m)) (hy : aeval ts y = .rv (.int k n)) (hrun : ∀ w, (Go.binOp op t (.int k m) (.int k n)).run P w = .ok u w) (hv : ∀ J M, V J M v u) : OpRes P o ts h v h := by
  refine OpRes.still fun J M w a hr hs hvs => ⟨u, ?_, hv J M⟩
  have h1 := eval_rel hs hvs x
  have h2 := eval_rel hs hvs y
  rw [hx] at h1
  rw [hy] at h2
  simp only [execOp, ho, V_int h1, V_int h2, Sem.run_bind, eqGuard_int, Result.andThen_ok, hrun, Sem.run_pure]
theorem snd_bool {op : BinOp} {t : TypeId} {x y : Operand} {t2 : TypeId} {m n : Bool} {u : Value} {v : AV} (ho : o.op = .binOp op t x y t2)
    (hx : aeval ts x = .rv (.bool m)) (hy : aeval ts y = .rv (.bool n)) (hrun : ∀ w, (Go.binOp op t (.bool m) (.bool n)).run P w = .ok u w) (hv : ∀ J M, V J M v u) : OpRes P o ts h v h := by
  refine OpRes.still fun J M w a hr hs hvs => ⟨u, ?_, hv J M⟩
  have h1 := eval_rel hs hvs x
  have h2 := eval_rel hs hvs y
  rw [hx] at h1
  rw [hy] at h2
  simp only [execOp, ho, V_bool h1, V_bool h2, Sem.run_bind, eqGuard_bool, Result.andThen_ok, hrun, Sem.run_pure]
end ops
end Go.Proofs.Ytknphnmhjmejaaa
