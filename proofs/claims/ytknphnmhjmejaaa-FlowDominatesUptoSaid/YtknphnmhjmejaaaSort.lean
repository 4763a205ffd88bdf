/-  Sorting a list of numbers, as a call of the library, on the abstract machine. No conditions. -/
import Derived.Test.YtknphnmhjmejaaaAmSj
import Derived.Shelf.Sort.Plain
import Derived.Shelf.Slices.In.SortNone
namespace Go.Proofs.Ytknphnmhjmejaaa
set_option linter.unusedVariables false
open Go.Shelf Go.Sort Go.RowKit
def intOf : AV → Option Int
  | .rv (.int .i64 n) => some n
  | _ => none
def sortL (zs : List Int) : List Int := zs.mergeSort fun x y => decide (x ≤ y)
noncomputable def sortG (args : List AV) (h : Hp) : Option (ARes × Hp) :=
  match args with
  | [.rv .nils] => some (.ret undefA, h)
  | [.sl o ver 0 len] =>
    match h[o]? with
    | some ob => if ob.ver = ver ∧ ob.esz = 1 ∧ ob.cells.length = len ∧ len ≤ 140737488355328 then
        match ob.cells.mapM intOf with
        | some zs => some (.ret undefA, h.set o { ob with cells := (sortL zs).map ai })
        | none => none
      else none
    | none => none
  | _ => none
theorem mapM_intOf : ∀ {cs : List AV} {zs : List Int}, cs.mapM intOf = some zs → cs = zs.map ai
  | [], zs, h => by simp at h; subst h; rfl
  | c :: cs, zs, h => by
    simp only [List.mapM_cons] at h
    cases hc : intOf c with
    | none => rw [hc] at h; cases h
    | some n =>
      rw [hc] at h
      cases hr : cs.mapM intOf with
      | none => rw [hr] at h; cases h
      | some ns =>
        rw [hr] at h
        cases h
        rw [mapM_intOf hr]
        unfold intOf at hc
        split at hc
        · cases hc; rfl
        · cases hc
theorem sortL_length (zs : List Int) : (sortL zs).length = zs.length := by simp [sortL]
theorem heap_mapBlock (w : World) (b : Nat) (f : Array Value → Array Value) (i : Nat) : (mapBlock w b f).heap[i]? = if b = i then (w.heap[i]?).map (onCells f) else w.heap[i]? := by
  unfold mapBlock
  simp only [Array.getElem?_modify]
theorem sort_good {P : Program} {ρ : Ren} (L : Lays.n189 P ρ) (he : Ent P (ρ.f 189)) : GoodC P (ρ.f 189) (.gen sortG) := by
  refine ⟨he, fun args h r h' hk J M w cargs hr hsz hv => ?_⟩
  have one : ∀ x, args = [x] → ∃ v, cargs = #[v] ∧ V J M x v := by
    rintro x rfl
    obtain ⟨v, hv0, hV⟩ := Vs_iff.1 hv 0 x rfl
    refine ⟨v, ?_, hV⟩
    simp at hsz
    apply Array.ext_getElem?
    intro i
    cases i with
    | zero => simpa using hv0
    | succ i => simp [hsz]
  unfold sortG at hk
  split at hk
  · cases hk
    obtain ⟨v, rfl, hV⟩ := one _ rfl
    simp only [V, VR] at hV
    subst hV
    refine (Any.slices_Sort_int_none L none 0 w).mono fun e w' ⟨he, hw⟩ => ?_
    subst he; subst hw
    exact ⟨J, M, Stp.refl hr, _, rfl, by simp [V, VR, VRs]⟩
  · rename_i o ver len
    split at hk
    case h_2 => cases hk
    rename_i ob ho
    split at hk
    case isFalse => cases hk
    rename_i hc
    obtain ⟨hver, hesz, hlen, hmax⟩ := hc
    split at hk
    case h_2 => cases hk
    rename_i zs hzs
    cases hk
    have hcells := mapM_intOf hzs
    have hzl : zs.length = len := by rw [← hlen, hcells]; simp
    obtain ⟨v, rfl, hV⟩ := one _ rfl
    simp only [V] at hV
    obtain ⟨e, he, a, cap, rfl, hcap, hcase⟩ := hV
    subst hver
    by_cases hcap0 : cap = 0
    · subst hcap0
      obtain rfl : len = 0 := by omega
      obtain rfl : zs = [] := by simpa using hzl
      refine (Any.slices_Sort_int_none L (some a) 0 w).mono fun e w' ⟨he, hw⟩ => ?_
      subst he; subst hw
      have hset : h.set o { ob with cells := (sortL []).map ai } = h := by
        have : ({ ob with cells := (sortL []).map ai } : Ob) = ob := by
          cases ob
          simp only [Ob.mk.injEq, true_and]
          rw [show sortL [] = [] from by simp [sortL]]
          exact hcells.symm
        rw [this]
        obtain ⟨hlt, e⟩ := List.getElem?_eq_some_iff.1 ho
        rw [← e]
        exact List.set_getElem_self hlt
      rw [hset]
      exact ⟨J, M, Stp.refl hr, _, rfl, by simp [V, VR, VRs]⟩
    · obtain ⟨rfl, hbound⟩ := hcase.resolve_left hcap0
      obtain ⟨e', c, t, he', hes, hb, hn, hvs⟩ := hr.ob o ob ho
      rw [he] at he'
      cases he'
      have hcz : ∀ j, j < zs.length → c[j]? = some (.int .i64 zs[j]!) := by
        intro j hj
        have hx : ob.cells[j]? = some (ai zs[j]!) := by
          rw [hcells, List.getElem?_map, List.getElem?_eq_getElem hj]
          simp [hj]
        obtain ⟨u, hu, hU⟩ := Vs_iff.1 hvs j _ hx
        rw [V_int hU] at hu
        exact hu
      have hH : Holds (Value.int .i64) w e.b 0 zs.toArray := by
        intro j hj
        have hj' : j < zs.length := by simpa using hj
        refine ⟨?_, ?_⟩
        · rw [cell_of_cells hb, Nat.zero_add, hcz j hj']
          simp
        · simp [World.frozen?, hb]
      have hbs := lt_of_cells hb
      have := Any.slices_Sort_int L e.b 0 cap zs w hH hbs (by omega)
      rw [hzl] at this
      refine this.mono fun en w' ⟨he, n, os, hw⟩ => ?_
      subst he
      have hsl := sortL_length zs
      have hheap : ∀ i, i < w.heap.size → w'.heap[i]? = if e.b = i then (w.heap[i]?).map (onCells (putCells (Value.int .i64) 0 (sortL zs).toArray)) else w.heap[i]? := by
        intro i hi
        rw [hw, heap_grow_old _ _ (by simpa [Sort.ahead] using hi)]
        exact heap_mapBlock _ _ _ _
      have hnew : w'.heap[e.b]? = some (.cells (putCells (Value.int .i64) 0 (sortL zs).toArray c) t (0, 0)) := by
        rw [hheap _ hbs, if_pos rfl, hb]
        rfl
      refine ⟨J, M, HR.put hr ho he hnew (by simp [putCells, hn]) ?_ ?_, _, rfl, by simp [V, VR, VRs]⟩
      · refine Vs_iff.2 fun i x hx => ?_
        rw [List.getElem?_map, Option.map_eq_some_iff] at hx
        obtain ⟨z, hz, rfl⟩ := hx
        have hi : i < (sortL zs).length := (List.getElem?_eq_some_iff.1 hz).1
        have hic : c[i]? = some (.int .i64 zs[i]!) := hcz i (by omega)
        refine ⟨.int .i64 z, ?_, by simp [V, VR]⟩
        simp only [putCells, Array.getElem?_mapIdx, hic, Option.map_some]
        rw [if_pos ⟨Nat.zero_le _, by simpa using hi⟩]
        have : (sortL zs)[i]? = some z := hz
        simp [this]
      · refine ⟨?_, ?_, ?_, ?_, ?_⟩
        · rw [hw]; rfl
        · rw [hw]; rfl
        · rw [hw]; rfl
        · rw [hw]; simp [Sort.ahead]
        · intro b hb' hne
          rw [hheap b hb', if_neg fun e' => hne e'.symm]
  · cases hk
end Go.Proofs.Ytknphnmhjmejaaa
