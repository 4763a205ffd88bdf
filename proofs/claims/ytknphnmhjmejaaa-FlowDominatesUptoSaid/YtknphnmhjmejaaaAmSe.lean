/-  The abstract machine's operations against the model's: structs and slices built, append. No conditions. -/
import Derived.Test.YtknphnmhjmejaaaAmSd
namespace Go.Proofs.Ytknphnmhjmejaaa
set_option linter.unusedVariables false
section ops
variable {P : Program} {Γ : FuncId → Option Callee} {R : Type} {o : Oper} {ts : List AV} {h : Hp} {K Kp : AV → Hp → Option R} {r : R}

/-! ### Parts laid into cells -/
theorem setIn_sound {J M} : ∀ (vs : List Value) (cs : List AV) (off i : Nat) (l : List AV) (c : Array Value), vs.length = cs.length → Vs J M cs (fun i => vs[i]?) → off + i + cs.length ≤ l.length → l.length ≤ c.size → Vs J M l (fun i => c[i]?) →
    Vs J M (setAt l (off + i) cs) (fun k => ((vs.zipIdx i).foldl (fun a (x : Value × Nat) => a.setIfInBounds (off + x.2) x.1) c)[k]?) ∧ ((vs.zipIdx i).foldl (fun a (x : Value × Nat) => a.setIfInBounds (off + x.2) x.1) c).size = c.size
  | [], cs, off, i, l, c, hlen, _, _, _, hl => by
    cases cs with
    | nil => exact ⟨by simpa [setAt] using hl, by simp⟩
    | cons => simp at hlen
  | v :: vs, cs, off, i, l, c, hlen, hcs, hle, hlc, hl => by
    cases cs with
    | nil => simp at hlen
    | cons x cs =>
      simp only [Vs] at hcs
      obtain ⟨⟨v0, hv0, hV0⟩, hrest⟩ := hcs
      simp only [List.getElem?_cons_zero, Option.some.injEq] at hv0
      subst hv0
      simp only [List.length_cons] at hle
      have hV1 : Vs J M (l.set (off + i) x) (fun j => (c.setIfInBounds (off + i) v)[j]?) := by
        refine Vs_iff.2 fun j y hy => ?_
        rw [List.getElem?_set] at hy
        by_cases hj : off + i = j
        · subst hj
          rw [if_pos rfl, if_pos (by omega)] at hy
          cases hy
          have hc : off + i < c.size := by omega
          exact ⟨v, by simp [hc], hV0⟩
        · rw [if_neg hj] at hy
          obtain ⟨u, hu, hU⟩ := Vs_iff.1 hl _ _ hy
          exact ⟨u, by rw [Array.getElem?_setIfInBounds_ne hj]; exact hu, hU⟩
      obtain ⟨h1, h2⟩ := setIn_sound vs cs off (i + 1) (l.set (off + i) x) (c.setIfInBounds (off + i) v) (by simpa using hlen) (by simpa using hrest) (by simp; omega) (by simpa using hlc) hV1
      simp only [List.zipIdx_cons, List.foldl_cons, setAt]
      rw [Nat.add_assoc]
      exact ⟨h1, by rw [h2]; simp⟩
theorem fill_sound {J M} (place : Nat → Option (Nat × Nat)) : ∀ (ps : List (Nat × Operand)) (a : Act) (l l' : List AV) (c : Array Value), (∀ x, V J M (aeval ts x) (a.eval x)) → l.length = c.size → Vs J M l (fun i => c[i]?) →
    fillA l (ps.map fun p => (place p.1, aeval ts p.2)) = some l' → ∃ c', Instr.fill place c (ps.map fun p => (p.1, a.eval p.2)) = some c' ∧ l'.length = c'.size ∧ Vs J M l' (fun i => c'[i]?)
  | [], a, l, l', c, hx, hlc, hl, hf => by
    simp only [List.map_nil, fillA, Option.some.injEq] at hf
    subst hf
    exact ⟨c, by simp [Instr.fill], hlc, hl⟩
  | p :: ps, a, l, l', c, hx, hlc, hl, hf => by
    simp only [List.map_cons, fillA] at hf
    split at hf
    case h_1 => cases hf
    rename_i off size hpl
    split at hf
    case h_1 => cases hf
    rename_i cs hcs
    split at hf
    case isFalse => cases hf
    rename_i hcond
    obtain ⟨hlen, hle⟩ := hcond
    obtain ⟨hsz, hcv⟩ := vcells_sound (hx p.2) hcs
    obtain ⟨h1, h2⟩ := setIn_sound (J := J) (M := M) (a.eval p.2).cells.toList cs off 0 l c (by simp [hsz]) (by simpa using hcv) (by omega) (by omega) hl
    obtain ⟨c', hc', h3, h4⟩ := fill_sound place ps a (setAt l off cs) l' _ hx (by rw [setAt_length, h2]; exact hlc) (by simpa using h1) hf
    refine ⟨c', ?_, h3, h4⟩
    simp only [List.map_cons, Instr.fill, hpl]
    have hne : ((a.eval p.2).cells.size ≠ size || off + (a.eval p.2).cells.size > c.size) = false := by
      simp only [ne_eq, Bool.or_eq_false_iff, decide_eq_false_iff_not]
      omega
    rw [if_neg (by simpa using hne)]
    rw [← hc']
    congr 1
    rw [← Array.foldl_toList, Array.toList_zipIdx]
theorem run_mapM_list {α β : Type} (f : α → Sem β) (g : α → β) : ∀ (l : List α) (w : World), (∀ x ∈ l, ∀ w, (f x).run P w = .ok (g x) w) → (l.mapM f).run P w = .ok (l.map g) w
  | [], w, _ => by simp
  | x :: l, w, hf => by
    simp only [List.mapM_cons, Sem.run_bind, hf x (List.mem_cons_self ..), Result.andThen_ok, run_mapM_list f g l w (fun y hy => hf y (List.mem_cons_of_mem _ hy)), List.map_cons, Sem.run_pure]
theorem run_mapM_arr {α β : Type} (f : α → Sem β) (g : α → β) (l : Array α) (w : World) (hf : ∀ x ∈ l.toList, ∀ w, (f x).run P w = .ok (g x) w) : (l.mapM f).run P w = .ok (l.map g) w := by
  rw [Array.mapM_eq_mapM_toList]
  simp only [Sem.run_map, run_mapM_list f g l.toList w hf, Result.andThen_ok]
  congr 1
  apply Array.ext'
  simp
theorem snd_build {t : TypeId} {parts : Array (Nat × Operand)} {fs : Array Field} {z : List AV} {K' : AV → Option R} (ho : o.op = .build t parts) (hd : P.underlying t = some (.struct fs)) (hz : zeroA P t = some z)
    (hall : (fs.toList.all fun f => (P.info? f.type).isSome) = true) (hk : bld z (parts.toList.map fun p => ((fs[p.1]?).map fun f => (f.offset, P.cellsOf f.type), aeval ts p.2)) K' = some r) : ∃ v, K' v = some r ∧ OpRes P o ts h v h := by
  unfold bld at hk
  split at hk
  case h_2 => cases hk
  rename_i cs hcs
  obtain ⟨inf, zv, hinf, hzv, rfl⟩ := zeroA_inv hz
  refine ⟨_, hk, OpRes.still fun J M w a hr hs hvs => ?_⟩
  have hpl : ∀ i : Nat, (fs.map fun (f : Field) => (f.offset, P.cellsOf f.type))[i]? = (fs[i]?).map fun f => (f.offset, P.cellsOf f.type) := fun i => by simp
  obtain ⟨c', hc', hlen, hV⟩ := fill_sound (ts := ts) (J := J) (M := M) (fun i => (fs.map fun (f : Field) => (f.offset, P.cellsOf f.type))[i]?) parts.toList a _ cs zv.cells (fun x => eval_rel hs hvs x) (by simp) (Vs_zero _) (by simpa only [hpl] using hcs)
  refine ⟨.agg c', ?_, by simp only [V]; exact ⟨_, rfl, hlen.symm, hV⟩⟩
  have hm : (fs.mapM fun (f : Field) => (do pure (f.offset, ← sizeOf f.type) : Sem (Nat × Nat))).run P w = .ok (fs.map fun (f : Field) => (f.offset, P.cellsOf f.type)) w := by
    refine run_mapM_arr _ (fun (f : Field) => (f.offset, P.cellsOf f.type)) fs w fun f hf w => ?_
    obtain ⟨i, hi⟩ := Option.isSome_iff_exists.1 (List.all_eq_true.1 hall f hf)
    simp [sizeOf_run hi, cellsOf_eq hi]
  have hparts : (parts.map fun x => (x.1, a.eval x.2)).toList = parts.toList.map fun p => (p.1, a.eval p.2) := by simp
  simp only [execOp, ho, Instr.build, Sem.run_bind, run_zeroValue hinf hzv, Result.andThen_ok, underlying_run hd, hm, hparts, hc', Sem.run_pure]
theorem snd_buildSlice {t e : TypeId} {len sz bytes : Nat} {parts : Array (Nat × Operand)} {z : List AV} (ho : o.op = .buildSlice t len parts) (he : elemSz P t = some (sz, bytes, e)) (hz : zeroE P e sz = some z) (hl : len * sz ≤ 16777216)
    (hk : bsl sz len z (parts.toList.map fun p => (some (p.1 * sz, sz), aeval ts p.2)) h K = some r) : ∃ v h', K v h' = some r ∧ OpRes P o ts h v h' := by
  unfold bsl at hk
  split at hk
  case h_2 => cases hk
  rename_i cs hcs
  refine ⟨_, _, hk, ?_⟩
  obtain ⟨hd, inf, hi, rfl, _⟩ := elemSz_inv he
  obtain ⟨hza, hzl, hz1⟩ := zeroE_inv hz
  obtain ⟨i2, zz, hi2, hzz, rfl⟩ := zeroA_inv hza
  rw [hi] at hi2
  cases hi2
  simp only [List.length_map, Array.length_toList] at hzl
  refine OpRes.new (.inr ⟨len, rfl⟩) fun J M w a hr hs hvs => ?_
  have hv0 := Vs_made (J := J) (M := M) zz.cells (by omega) len len (Nat.le_refl _)
  have hl0 : (zrep (zz.cells.toList.map ofVal) len).length = ((Array.range (len * zz.cells.size)).map (zz.cells[· % zz.cells.size]!)).size := by
    simp [zrep]
  obtain ⟨c', hc', hlen, hV⟩ := fill_sound (ts := ts) (J := J) (M := M) (fun i => some (i * inf.size, inf.size)) parts.toList a _ cs _ (fun x => eval_rel hs hvs x) hl0 hv0 hcs
  refine ⟨c', e, hV, .inr ⟨len, len, rfl, Nat.le_refl _, ?_, ?_⟩⟩
  · have h1 : ∀ (ps : List (Option (Nat × Nat) × AV)) (l l' : List AV), fillA l ps = some l' → l'.length = l.length := by
      intro ps
      induction ps with
      | nil => intro l l' hf; simp only [fillA, Option.some.injEq] at hf; rw [hf]
      | cons p ps ih =>
        intro l l' hf
        simp only [fillA] at hf
        split at hf
        case h_1 => cases hf
        split at hf
        case h_1 => cases hf
        split at hf
        case isFalse => cases hf
        rw [ih _ _ hf, setAt_length]
    rw [← hlen, h1 _ _ _ hcs, hl0]
    simp [hzl]
  · have hparts : (parts.map fun x => (x.1, a.eval x.2)).toList = parts.toList.map fun p => (p.1, a.eval p.2) := by simp
    by_cases hz0 : len * inf.size = 0
    · have hl0' : len = 0 := by rcases Nat.mul_eq_zero.1 hz0 with h | h <;> omega
      subst hl0'
      simp only [Nat.zero_mul] at hc'
      have hc2 : Instr.fill (fun i => some (i * inf.size, inf.size)) ((Array.range 0).map (fun x => (#[] : Array Value)[x % (#[] : Array Value).size]!)) (parts.toList.map fun p => (p.1, a.eval p.2)) = some c' := by
        rw [← hc', show Array.range 0 = (#[] : Array Nat) from rfl]
        simp
      simp only [execOp, ho, Instr.buildSlice, Sem.run_bind, underlying_run hd, Result.andThen_ok, sizeOf_run hi, Nat.zero_mul, gt_iff_lt, Nat.not_lt_zero, if_false, if_true, Sem.run_pure, hparts, hc2, newRow]
      simp
    · have hng : ¬ (len * inf.size > 2 ^ 24) := by omega
      rw [hzl] at hc'
      simp only [execOp, ho, Instr.buildSlice, Sem.run_bind, underlying_run hd, Result.andThen_ok, sizeOf_run hi, hng, if_false, hz0, run_zeroValue hi hzz, Sem.run_pure, hparts, hzl, hc', newRow]
      simp

/-! ### append -/
theorem wcells_sound {J M w} (hr : HR J M h w) {x : AV} {v : Value} (hV : V J M x v) {esz n : Nat} {new : List AV} (hw : wcells esz h x = some (n, new)) :
    new.length = n * esz ∧ ∃ A len cap, v = .slice A len cap ∧ len = n ∧ ∃ c : List Value, c.length = n * esz ∧ (∀ wd, (∀ a u, w.cell? a = some u → wd.cell? a = some u) → (Builtin.firstCells esz n v).run P wd = .ok c.toArray wd) ∧ Vs J M new (fun i => c[i]?) := by
  unfold wcells at hw
  split at hw
  · simp only [Option.some.injEq, Prod.mk.injEq] at hw
    obtain ⟨rfl, rfl⟩ := hw
    simp only [V, VR] at hV
    subst hV
    exact ⟨by simp, none, 0, 0, rfl, rfl, [], by simp, fun wd _ => by simp [Builtin.firstCells], by simp [Vs]⟩
  · rename_i cs len
    split at hw
    case isFalse => cases hw
    rename_i hle
    simp only [Option.some.injEq, Prod.mk.injEq] at hw
    obtain ⟨rfl, rfl⟩ := hw
    simp only [V, VR] at hV
    obtain ⟨a, cap, rfl, hlc, hs⟩ := hV
    have hch : ∃ c : List Value, c.length = len * esz ∧ ∀ i, i < len * esz → ∃ v x, c[i]? = some v ∧ cs[i]? = some x ∧ M (a.add i) = some v ∧ VR M x v := by
      have : ∀ m, m ≤ len * esz → ∃ c : List Value, c.length = m ∧ ∀ i, i < m → ∃ v x, c[i]? = some v ∧ cs[i]? = some x ∧ M (a.add i) = some v ∧ VR M x v := by
        intro m
        induction m with
        | zero => exact fun _ => ⟨[], rfl, fun i hi => by omega⟩
        | succ m ih =>
          intro hm
          obtain ⟨c, hc, hcs⟩ := ih (by omega)
          have hx : cs[m]? = some cs[m] := List.getElem?_eq_getElem (by omega)
          obtain ⟨v, hv, hV⟩ := VRs_iff.1 hs _ _ hx
          refine ⟨c ++ [v], by simp [hc], fun i hi => ?_⟩
          by_cases him : i < m
          · obtain ⟨v', x', h1, h2, h3, h4⟩ := hcs i him
            exact ⟨v', x', by rw [List.getElem?_append_left (by omega)]; exact h1, h2, h3, h4⟩
          · have : i = m := by omega
            subst this
            exact ⟨v, _, by simp [← hc], hx, hv, hV⟩
      exact this _ (Nat.le_refl _)
    obtain ⟨c, hc, hcs⟩ := hch
    refine ⟨by simp; omega, some a, len, cap, rfl, rfl, c, hc, fun wd hwd => ?_, Vs_iff.2 fun i x hx => ?_⟩
    · refine run_firstCells_some (P := P) (w := wd) esz len a len cap c hc fun j v hj => ?_
      have hlt : j < len * esz := by rw [← hc]; exact (List.getElem?_eq_some_iff.1 hj).1
      obtain ⟨v', x', h1, _, h3, _⟩ := hcs j hlt
      rw [hj] at h1
      cases h1
      exact hwd _ _ (hr.im _ _ h3)
    · rw [List.getElem?_map, List.getElem?_take, Option.map_eq_some_iff] at hx
      obtain ⟨y, hy, rfl⟩ := hx
      split at hy
      case isFalse => cases hy
      rename_i hlt
      obtain ⟨v', x', h1, h2, _, h4⟩ := hcs i hlt
      rw [hy] at h2
      cases h2
      exact ⟨v', h1, by simpa only [V] using h4⟩
  · rename_i ob ver off len
    split at hw
    case h_2 => cases hw
    rename_i obj hobj
    split at hw
    case isFalse => cases hw
    rename_i hcond
    obtain ⟨hver, hle⟩ := hcond
    simp only [Option.some.injEq, Prod.mk.injEq] at hw
    obtain ⟨rfl, rfl⟩ := hw
    simp only [V] at hV
    obtain ⟨e, he, a, cap, rfl, hlc, hcap⟩ := hV
    obtain ⟨e2, cb, t, he2, hes, hb, hn, hcv⟩ := hr.ob _ _ hobj
    rw [hver, he] at he2
    cases he2
    have hcs : ∀ i, i < len * esz → off + i < cb.size := by
      intro i hi
      obtain ⟨u, hu, _⟩ := Vs_iff.1 hcv (off + i) _ (List.getElem?_eq_getElem (by omega))
      exact (Array.getElem?_eq_some_iff.1 hu).1
    have hsz : off + len * esz ≤ cb.size ∨ len * esz = 0 := by
      rcases Nat.eq_zero_or_pos (len * esz) with h0 | h0
      · exact .inr h0
      · have := hcs (len * esz - 1) (by omega); omega
    refine ⟨by simp; omega, some a, len, cap, rfl, rfl, (cb.toList.drop off).take (len * esz), by simp; omega, fun wd hwd => ?_, Vs_iff.2 fun i x hx => ?_⟩
    · refine run_firstCells_some (P := P) (w := wd) esz len a len cap _ (by simp; omega) fun j v hj => ?_
      rw [List.getElem?_take] at hj
      split at hj
      case isFalse => cases hj
      rename_i hlt
      rw [List.getElem?_drop] at hj
      rcases hcap with h0 | ⟨rfl, _⟩
      · have : len = 0 := by omega
        subst this
        simp at hlt
      · refine hwd _ _ ?_
        rw [add_none, cell_of_cells hb]
        simpa using hj
    · rw [List.getElem?_take] at hx
      split at hx
      case isFalse => cases hx
      rename_i hlt
      rw [List.getElem?_drop] at hx
      obtain ⟨u, hu, hU⟩ := Vs_iff.1 hcv _ _ hx
      refine ⟨u, ?_, hU⟩
      rw [List.getElem?_take, if_pos hlt, List.getElem?_drop]
      simpa using hu
  · cases hw
theorem setAt_app : ∀ (zs xs ys : List AV), ys.length = zs.length → setAt (xs ++ ys) xs.length zs = xs ++ zs
  | [], xs, ys, hl => by simp at hl; subst hl; simp [setAt]
  | z :: zs, xs, ys, hl => by
    cases ys with
    | nil => simp at hl
    | cons y ys =>
      simp only [setAt]
      have e1 : (xs ++ y :: ys).set xs.length z = (xs ++ [z]) ++ ys := by simp
      rw [e1]
      have := setAt_app zs (xs ++ [z]) ys (by simpa using hl)
      simp only [List.length_append, List.length_singleton] at this
      rw [this]
      simp
theorem Vs_append {J M} {xs ys : List AV} {c d : List Value} (hc : c.length = xs.length) (h1 : Vs J M xs (fun i => c[i]?)) (h2 : Vs J M ys (fun i => d[i]?)) : Vs J M (xs ++ ys) (fun i => (c ++ d)[i]?) := by
  refine Vs_iff.2 fun i x hx => ?_
  by_cases hi : i < xs.length
  · rw [List.getElem?_append_left hi] at hx
    obtain ⟨v, hv, hV⟩ := Vs_iff.1 h1 _ _ hx
    exact ⟨v, by rw [List.getElem?_append_left (by omega)]; exact hv, hV⟩
  · rw [List.getElem?_append_right (by omega)] at hx
    obtain ⟨v, hv, hV⟩ := Vs_iff.1 h2 _ _ hx
    exact ⟨v, by rw [List.getElem?_append_right (by omega), hc]; exact hv, hV⟩
/-- append where there is no room: a new row. -/
theorem run_append_new {t u ty e : TypeId} {esz bytes : Nat} {z : List AV} (he : elemSz P t = some (esz, bytes, e)) (hz : zeroE P e esz = some z) (hu : ∃ e, P.underlying u = some (.slice e))
    {A : Option Addr} {sl sc n : Nat} {x : Value} {xa : Option Addr} {xc : Nat} (hx : x = .slice xa n xc) (hns : sc < sl + n) (hroom : ((sl + n : Nat) : Int) ≤ room) (hb : bytes * ((sl + n : Nat) : Int) ≤ room)
    {olds news : List Value} (w : World) (ho : (Builtin.firstCells esz sl (.slice A sl sc)).run P w.drew = .ok olds.toArray w.drew) (hn : (Builtin.firstCells esz n x).run P w.drew = .ok news.toArray w.drew) (hol : olds.length = sl * esz) (hnl : news.length = n * esz) :
    ∃ (cap : Nat) (c : Array Value), sl + n ≤ cap ∧ cap * esz ≤ c.size ∧ (∀ (i : Nat) (v : Value), (olds ++ news)[i]? = some v → c[i]? = some v) ∧
      (Builtin.append_ #[t, u] ty #[.slice A sl sc, x]).run P w = .ok (.slice (some ⟨w.heap.size, 0, none⟩) (sl + n) cap) (w.drew.alloc (.cells c e)) := by
  obtain ⟨hd, inf, hi, rfl, rfl⟩ := elemSz_inv he
  obtain ⟨hza, hzl, hz1⟩ := zeroE_inv hz
  obtain ⟨i2, zz, hi2, hzz, rfl⟩ := zeroA_inv hza
  rw [hi] at hi2
  cases hi2
  simp only [List.length_map, Array.length_toList] at hzl
  obtain ⟨eu, hu⟩ := hu
  unfold room at hroom hb
  have hneed : ¬ (sl + n ≤ sc) := by omega
  have hbn : (sl + n) * inf.bytes ≤ 140737488355328 := by
    have : ((inf.bytes * (sl + n) : Nat) : Int) ≤ 140737488355328 := by push_cast; push_cast at hb; exact hb
    have h2 : inf.bytes * (sl + n) ≤ 140737488355328 := by omega
    rwa [Nat.mul_comm]
  have hfit := growslice_fits hns hbn
  have hfit' : ¬ (Builtin.nextslicecap (sl + n) sc * inf.bytes > 2 ^ 48) := by omega
  have hmax : ¬ ((((sl + n : Nat) : Int) > IntKind.i64.max) ∧ (false = true ∨ inf.bytes = 0)) := by
    rintro ⟨h1, _⟩
    have : IntKind.i64.max = 9223372036854775807 := by decide
    omega
  refine ⟨(Question.appendCap (sl + n) sc e).cut (w.tape w.drawn (.appendCap (sl + n) sc e)), (olds ++ news).toArray ++ Builtin.zeroCells zz.cells ((Question.appendCap (sl + n) sc e).cut (w.tape w.drawn (.appendCap (sl + n) sc e)) - (sl + n)), ?_, ?_, ?_, ?_⟩
  · simp [Question.cut]
  · have hcut : sl + n ≤ (Question.appendCap (sl + n) sc e).cut (w.tape w.drawn (.appendCap (sl + n) sc e)) := by simp [Question.cut]
    generalize (Question.appendCap (sl + n) sc e).cut (w.tape w.drawn (.appendCap (sl + n) sc e)) = cap at hcut
    simp only [Array.size_append, List.size_toArray, List.length_append, hol, hnl, Builtin.zeroCells, Array.size_map, Array.size_range, hzl]
    have : (cap - (sl + n)) * inf.size + (sl + n) * inf.size = cap * inf.size := by rw [← Nat.add_mul]; congr 1; omega
    have h2 : (sl + n) * inf.size = sl * inf.size + n * inf.size := Nat.add_mul ..
    omega
  · intro i v hv
    have hlt : i < (olds ++ news).length := (List.getElem?_eq_some_iff.1 hv).1
    rw [Array.getElem?_append_left (by simpa using hlt)]
    simpa using hv
  · subst hx
    have hforced : (Question.appendCap (sl + n) sc e).forced = false := rfl
    have hm2 : ¬ ((9223372036854775807 : Int) < (sl : Int) + (n : Int) ∧ inf.bytes = 0) := by
      rintro ⟨h1, _⟩
      omega
    have hfit2 : ¬ (281474976710656 < Builtin.nextslicecap (sl + n) sc * inf.bytes) := by omega
    simp [Builtin.append_, underlying_run hd, sizeOf_run hi, underlying_run hu, Builtin.lenOf, hneed, typeInfo, hi, hm2, hfit2, hforced, ho, hn, run_zeroValue hi hzz, newRow]
    congr 2
    apply Array.ext'
    simp
theorem run_append_fit {t u ty e : TypeId} {esz bytes : Nat} (he : elemSz P t = some (esz, bytes, e)) (hu : ∃ e, P.underlying u = some (.slice e))
    {A : Option Addr} {sl sc n : Nat} {x : Value} {xa : Option Addr} {xc : Nat} (hx : x = .slice xa n xc) (hns : sl + n ≤ sc) {news : List Value} (w : World) (hn : (Builtin.firstCells esz n x).run P w = .ok news.toArray w) :
    (Builtin.append_ #[t, u] ty #[.slice A sl sc, x]).run P w = (match A with
      | some a => ((storeCells (a.add (sl * esz)) news).run P w).andThen fun _ w => .ok (.slice A (sl + n) sc) w
      | none => .ok (.slice A (sl + n) sc) w) := by
  obtain ⟨hd, inf, hi, rfl, rfl⟩ := elemSz_inv he
  obtain ⟨eu, hu⟩ := hu
  subst hx
  cases A <;> simp [Builtin.append_, underlying_run hd, sizeOf_run hi, underlying_run hu, Builtin.lenOf, hns, hn]
theorem snd_append {x y : Operand} {t u e : TypeId} {esz bytes : Nat} {c : Call} (ho : o.op = .call c) (hc : c.callee = .builtin .append) (ha : c.args.toList = [x, y]) (hct : c.argTypes.toList = [t, u])
    (he : elemSz P t = some (esz, bytes, e)) (hu : ∃ e, P.underlying u = some (.slice e)) (hz : (zeroE P e esz).isSome = true) (hk : apn esz bytes h (aeval ts x) (aeval ts y) K = some r) : ∃ v h', K v h' = some r ∧ OpRes P o ts h v h' := by
  obtain ⟨z, hz⟩ := Option.isSome_iff_exists.1 hz
  have hargs : c.args = #[x, y] := by rw [← c.args.toArray_toList, ha]
  have hats : c.argTypes = #[t, u] := by rw [← c.argTypes.toArray_toList, hct]
  have run : ∀ (a : Act) (w : World), (execOp a.eval o).run P w = ((Builtin.append_ #[t, u] o.type #[a.eval x, a.eval y]).run P w).andThen fun v w => .ok (.value v) w := by
    intro a w
    simp [execOp, ho, resolve, hc, invoke, builtin, hargs, hats]
  unfold apn at hk
  split at hk
  case h_1 => cases hk
  rename_i n new hwc
  split at hk
  · rename_i hx
    split at hk
    · rename_i hn0
      subst hn0
      refine ⟨_, _, hk, OpRes.still fun J M w a hr hs hvs => ⟨.slice none 0 0, ?_, by simp only [V, VR]⟩⟩
      have hX := eval_rel hs hvs x
      rw [hx] at hX
      simp only [V, VR] at hX
      obtain ⟨hnl, A, len, cap, hy, hlen, cl, hcl, hfirst, hcV⟩ := wcells_sound (P := P) hr (eval_rel hs hvs y) hwc
      subst hlen
      rw [run, hX, run_append_fit (P := P) (A := none) (sl := 0) (sc := 0) he hu hy (Nat.le_refl _) w (hfirst w fun _ _ k => k)]
      rfl
    · rename_i hn0
      split at hk
      case isFalse => cases hk
      rename_i hcond
      obtain ⟨hroom, hb, hone⟩ := hcond
      refine ⟨_, _, hk, ?_⟩
      intro J M w a hr hs hvs next Q hnext
      have hX := eval_rel hs hvs x
      rw [hx] at hX
      simp only [V, VR] at hX
      obtain ⟨hnl, A, len, cap, hy, hlen, cl, hcl, hfirst, hcV⟩ := wcells_sound (P := P) hr (eval_rel hs hvs y) hwc
      subst hlen
      obtain ⟨cap2, cc, h1, h2, h3, h4⟩ := run_append_new (P := P) (ty := o.type) he hz hu (A := none) (sl := 0) (sc := 0) (n := len) hy (by omega) (by simpa using hroom) (by simpa using hb) (olds := []) (news := cl) w
        (by simp [Builtin.firstCells]) (hfirst w.drew fun _ _ k => k) (by simp) hcl
      have st := (Stp.drew hr).trans (HR.push hr.drew esz new cc e (Vs_iff.2 fun i q hq => by
        obtain ⟨v, hv, hV⟩ := Vs_iff.1 hcV _ _ hq
        exact ⟨v, h3 i v (by simpa using hv), hV⟩))
      refine wp_val (w' := w.drew.alloc (.cells cc e)) (u := .slice (some ⟨w.heap.size, 0, none⟩) (0 + len) cap2) ?_ (hnext _ _ _ _ st ?_)
      · rw [run, hX, h4]; rfl
      · simp only [V]
        exact ⟨⟨w.drew.heap.size, cc.size, esz⟩, if_pos ⟨rfl, rfl⟩, _, cap2, by rw [Nat.zero_add]; rfl, by omega, .inr ⟨rfl, by simpa using h2⟩⟩
  · rename_i ob ver off len hx
    split at hk
    case h_2 => cases hk
    rename_i obj hobj
    split at hk
    case isFalse => cases hk
    rename_i hcond
    obtain ⟨hoff, hver, hesz, hle, hroom, hb, hone⟩ := hcond
    subst hoff
    refine ⟨_, _, hk, ?_⟩
    intro J M w a hr hs hvs next Q hnext
    have hX := eval_rel hs hvs x
    rw [hx] at hX
    simp only [V] at hX
    obtain ⟨ej, hej, ad, cap, hxv, hlc, hcap⟩ := hX
    obtain ⟨e2, cb, tb, he2, hes, hbk, hbn, hcv⟩ := hr.ob _ _ hobj
    have hej' := he2
    rw [hver, hej] at he2
    cases he2
    obtain ⟨hnl, A, len2, cap2, hy, hlen, cl, hcl, hfirst, hcV⟩ := wcells_sound (P := P) hr (eval_rel hs hvs y) hwc
    subst hlen
    have htake : (obj.cells.take (len * esz)).length = len * esz := by simp; omega
    have hVt : Vs J M (obj.cells.take (len * esz)) (fun i => cb[i]?) := by
      refine Vs_iff.2 fun i q hq => ?_
      rw [List.getElem?_take] at hq
      split at hq
      case isFalse => cases hq
      exact Vs_iff.1 hcv _ _ hq
    by_cases hfit : len + len2 ≤ cap
    · -- there is room
      rcases hcap with hc0 | ⟨rfl, hcr⟩
      · -- no capacity: nothing is appended
        have hl0 : len = 0 := by omega
        have hn0 : len2 = 0 := by omega
        subst hl0
        subst hn0
        have hnew : new = [] := List.eq_nil_of_length_eq_zero (by simpa using hnl)
        have hcl0 : cl = [] := List.eq_nil_of_length_eq_zero (by simpa using hcl)
        subst hnew
        subst hcl0
        have st := HR.turn hr hobj hej' (e' := ej) (by rw [hes]) (cells' := []) hbk hbn (by simp [Vs]) (.inl rfl) (Fr.refl _ w)
        refine wp_val (w' := w) (u := .slice (some ad) 0 cap) ?_ (hnext _ _ _ _ (by rw [← hver, ← hesz]; simpa using st) ?_)
        · rw [run, hxv, run_append_fit (P := P) he hu hy hfit w (hfirst w fun _ _ k => k)]
          simp [storeCells]
        · simp only [V]
          exact ⟨ej, by simp [turnJ, hver], ad, cap, rfl, by omega, .inl hc0⟩
      · -- the cells go into the block
        have hesz' : ej.esz = esz := by rw [hes, hesz]
        have hsz : (len + len2) * esz ≤ cb.size := by
          rw [hbn]
          have : (len + len2) * esz ≤ cap * esz := Nat.mul_le_mul_right _ hfit
          rw [hesz'] at hcr
          omega
        have hadd : (len + len2) * esz = len * esz + len2 * esz := Nat.add_mul ..
        have hVl : Vs J M (obj.cells.take (len * esz) ++ List.replicate (len2 * esz) .any) (fun i => cb[i]?) := by
          refine Vs_iff.2 fun i q hq => ?_
          by_cases hi : i < len * esz
          · rw [List.getElem?_append_left (by omega)] at hq
            exact Vs_iff.1 hVt _ _ hq
          · have hlt := (List.getElem?_eq_some_iff.1 hq).1
            simp only [List.length_append, htake, List.length_replicate] at hlt
            rw [List.getElem?_append_right (by omega), htake] at hq
            rw [List.getElem?_replicate] at hq
            split at hq
            case isFalse => cases hq
            cases hq
            exact ⟨cb[i]'(by omega), by rw [Array.getElem?_eq_getElem], by simp [V]⟩
        obtain ⟨c', w', hrun, hw', hsz', hV', hfr⟩ := run_stores (P := P) (J := J) (M := M) cl new (len * esz) 0 _ cb w hbk (by rw [hcl, hnl]) hcV (fun q hq => List.all_eq_true.1 hone q hq)
          (by simp only [List.length_append, htake, List.length_replicate, hnl]; omega) hVl
        have hset : setAt (obj.cells.take (len * esz) ++ List.replicate (len2 * esz) .any) (len * esz + 0) new = obj.cells.take (len * esz) ++ new := by
          have := setAt_app new (obj.cells.take (len * esz)) (List.replicate (len2 * esz) .any) (by simp [hnl])
          rw [htake] at this
          exact this
        rw [hset] at hV'
        have st := HR.turn hr hobj hej' (e' := ej) (by rw [hes]) hw' (by rw [hsz', hbn]) hV' (.inl rfl) hfr
        refine wp_val (w' := w') (u := .slice (some ⟨ej.b, 0, none⟩) (len + len2) cap) ?_ (hnext _ _ _ _ (by rw [← hver, ← hesz]; rw [← hesz] at st; exact st) ?_)
        · rw [run, hxv, run_append_fit (P := P) he hu hy hfit w (hfirst w fun _ _ k => k)]
          simp only [add_none, Nat.zero_add, hrun, Result.andThen_ok]
        · simp only [V]
          exact ⟨ej, by simp [turnJ, hver], _, cap, rfl, by omega, .inr ⟨rfl, hcr⟩⟩
    · -- a new row
      have hold : ∀ i, i < len * esz → i < cb.size := by
        intro i hi
        obtain ⟨u, hu, _⟩ := Vs_iff.1 hcv i _ (List.getElem?_eq_getElem (by omega))
        exact (Array.getElem?_eq_some_iff.1 hu).1
      have hszo : len * esz ≤ cb.size := by
        rcases Nat.eq_zero_or_pos (len * esz) with h0 | h0
        · omega
        · have := hold (len * esz - 1) (by omega); omega
      have hfo : (Builtin.firstCells esz len (.slice (some ad) len cap)).run P w.drew = .ok (cb.toList.take (len * esz)).toArray w.drew := by
        refine run_firstCells_some (P := P) (w := w.drew) esz len ad len cap _ (by simp; omega) fun j v hj => ?_
        rw [List.getElem?_take] at hj
        split at hj
        case isFalse => cases hj
        rename_i hlt
        rcases hcap with h0 | ⟨rfl, _⟩
        · have : len = 0 := by omega
          subst this
          simp at hlt
        · rw [add_none]
          show w.cell? _ = _
          rw [cell_of_cells hbk]
          simpa using hj
      obtain ⟨cap3, cc, h1, h2, h3, h4⟩ := run_append_new (P := P) (ty := o.type) he hz hu (A := some ad) (sl := len) (sc := cap) (n := len2) hy (by omega) hroom hb (news := cl) w hfo (hfirst w.drew fun _ _ k => k) (by simp; omega) hcl
      have hVn : Vs J M (obj.cells.take (len * esz) ++ new) (fun i => cc[i]?) := by
        have hap := Vs_append (J := J) (M := M) (xs := obj.cells.take (len * esz)) (ys := new) (c := cb.toList.take (len * esz)) (d := cl) (by simp; omega) (Vs_iff.2 fun i q hq => by
          obtain ⟨v, hv, hV⟩ := Vs_iff.1 hVt _ _ hq
          refine ⟨v, ?_, hV⟩
          have := (List.getElem?_eq_some_iff.1 hq).1
          rw [List.getElem?_take, if_pos (by omega)]
          simpa using hv) hcV
        refine Vs_iff.2 fun i q hq => ?_
        obtain ⟨v, hv, hV⟩ := Vs_iff.1 hap _ _ hq
        exact ⟨v, h3 i v hv, hV⟩
      have hfr : Fr (fun b => b = w.heap.size) w.drew (w.drew.alloc (.cells cc e)) := ⟨rfl, rfl, rfl, by simp, fun b hb _ => heap_old _ _ hb⟩
      have st := (Stp.drew hr).trans (HR.turn hr.drew hobj hej' (e' := ⟨w.heap.size, cc.size, esz⟩) (by simp [hesz]) (w' := w.drew.alloc (.cells cc e)) (heap_new w.drew _) rfl hVn (.inr (Nat.le_refl _)) hfr)
      refine wp_val (w' := w.drew.alloc (.cells cc e)) (u := .slice (some ⟨w.heap.size, 0, none⟩) (len + len2) cap3) ?_ (hnext _ _ _ _ (by rw [← hver, ← hesz]; rw [← hesz] at st; exact st) ?_)
      · rw [run, hxv, h4]; rfl
      · simp only [V]
        exact ⟨⟨w.heap.size, cc.size, obj.esz⟩, by simp [turnJ, hver], _, cap3, rfl, h1, .inr ⟨rfl, by simpa [hesz] using h2⟩⟩
  · cases hk
end ops
end Go.Proofs.Ytknphnmhjmejaaa
