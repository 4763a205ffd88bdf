/-  The rows' frame: what is read of the arguments as values held still; a law's row out of its function's answer. No conditions. -/
import Derived.Test.YtknphnmhjmejaaaRows
import Derived.Test.YtknphnmhjmejaaaFd
import Derived.Test.YtknphnmhjmejaaaBase
import Derived.ProofKit
import Derived.OpenShut
import Derived.JoinedCond
import Derived.ChangeBook
import Derived.ChangeBears
import Derived.ChangeStays
import Derived.Deep.Slices
namespace Go.Proofs.Ytknphnmhjmejaaa
set_option linter.unusedVariables false
open Go.ChangeShapes Go.WideShapes Go.ChangeAt Go.RowKit Go.Deep
/-! ### The bound -/
theorem bulk_one {H : Type} (d : DataW H) : 1 ≤ Rows.uptoBulk d := by
  cases d with
  | lit l => cases l <;> simp [Rows.uptoBulk]
  | nil => simp [Rows.uptoBulk]
  | ptr d => simp [Rows.uptoBulk]
  | slice elems spare => simp [Rows.uptoBulk]
  | agg parts => simp [Rows.uptoBulk]
  | iface t d => simp [Rows.uptoBulk]
  | map entries => simp [Rows.uptoBulk]
  | held h => simp [Rows.uptoBulk]
theorem bulk_part {H : Type} {d : DataW H} {l : List (DataW H)} (h : d ∈ l) : Rows.uptoBulk d ≤ Rows.uptoBulkAll l := by
  induction l with
  | nil => cases h
  | cons x r ih =>
    simp only [Rows.uptoBulkAll]
    cases List.mem_cons.1 h with
    | inl e => subst e; omega
    | inr e => have := ih e; omega
theorem bulk_len {H : Type} (l : List (DataW H)) : l.length ≤ Rows.uptoBulkAll l := by
  induction l with
  | nil => simp [Rows.uptoBulkAll]
  | cons x r ih => have := bulk_one x; simp only [Rows.uptoBulkAll, List.length_cons]; omega
theorem bulk_slice {H : Type} (elems spare : List (DataW H)) : Rows.uptoBulkAll elems ≤ Rows.uptoBulk (.slice elems spare) := by
  simp only [Rows.uptoBulk]; omega
theorem bulk_agg {H : Type} (ps : List (DataW H)) : Rows.uptoBulkAll ps ≤ Rows.uptoBulk (.agg ps) := by
  simp only [Rows.uptoBulk]; omega
/-! ### Reading -/
section
variable {H : Type} {enc : TypeId × Value → H} {P : Program} {w : World}
/-- All that is there, held still. -/
abbrev MW (w : World) : Mm := fun a => w.cell? a
abbrev trodW (enc : TypeId × Value → H) (P : Program) (w : World) (n : Nat) (t : TypeId) (cs : List Value) (x : DataW H × List MemPlace) : Prop := DataW.trod enc P w 0 (fun _ => true) true n t cs = some x
/-- A type's row of cells is read as something. -/
def Reads (enc : TypeId × Value → H) (P : Program) (w : World) (t : TypeId) {α : Type} (Q : List RV → α → Prop) : Prop :=
  ∀ (n : Nat) (cs : List Value) (x : DataW H × List MemPlace), trodW enc P w n t cs x → Rows.uptoBulk x.1 ≤ 1048576 → ∃ (c : List RV) (a : α), c.length = cs.length ∧ Q c a ∧ VRs (MW w) c (fun i => cs[i]?)
def One {α : Type} (Q : RV → α → Prop) : List RV → α → Prop := fun c a => ∃ x, c = [x] ∧ Q x a
theorem VRs_one {M : Mm} {x : RV} {v : Value} (h : VR M x v) : VRs M [x] (fun i => [v][i]?) := by
  simp only [VRs, and_true]
  exact ⟨v, rfl, h⟩
theorem reads_int {t : TypeId} {k : IntKind} (ht : P.underlying t = some (.int k)) : Reads enc P w t (One fun (x : RV) (n : Int) => x = .int k n) := by
  intro n cs x hx hb
  obtain ⟨m, rfl, rfl, _⟩ := DataW.trod_int ht hx
  exact ⟨[.int k m], m, rfl, ⟨_, rfl, rfl⟩, VRs_one (by simp [VR])⟩
theorem VRs_append {M : Mm} {a b : List RV} {xs ys : List Value} (ha : a.length = xs.length) (h1 : VRs M a (fun i => xs[i]?)) (h2 : VRs M b (fun i => ys[i]?)) : VRs M (a ++ b) (fun i => (xs ++ ys)[i]?) := by
  refine VRs_iff.2 fun i x hx => ?_
  by_cases hi : i < a.length
  · rw [List.getElem?_append_left hi] at hx
    obtain ⟨v, hv, hV⟩ := VRs_iff.1 h1 _ _ hx
    exact ⟨v, by rw [List.getElem?_append_left (by omega)]; exact hv, hV⟩
  · rw [List.getElem?_append_right (by omega)] at hx
    obtain ⟨v, hv, hV⟩ := VRs_iff.1 h2 _ _ hx
    exact ⟨v, by rw [List.getElem?_append_right (by omega), ← ha]; exact hv, hV⟩
theorem rows_of {α : Type} {n : Nat} {Q : List RV → α → Prop} {a : Addr} : ∀ (len k : Nat), (∀ i, i < len → ∃ (c : List RV) (x : α), c.length = n ∧ Q c x ∧ VRs (MW w) c (fun j => w.cell? (a.add ((k + i) * n + j)))) →
    ∃ (cs : List RV) (xs : List α), cs.length = len * n ∧ xs.length = len ∧ Rows n Q cs xs ∧ VRs (MW w) cs (fun j => w.cell? (a.add (k * n + j)))
  | 0, k, _ => ⟨[], [], by simp, rfl, .nil, by simp [VRs]⟩
  | len + 1, k, h => by
    obtain ⟨c, x, hc, hq, hv⟩ := h 0 (by omega)
    obtain ⟨cs, xs, hcs, hxs, hr, hvs⟩ := rows_of len (k + 1) (fun i hi => by
      have := h (i + 1) (by omega)
      rwa [show k + (i + 1) = k + 1 + i by omega] at this)
    refine ⟨c ++ cs, x :: xs, by rw [List.length_append, hc, hcs, Nat.succ_mul]; omega, by simp [hxs], .cons hc hq hr, VRs_iff.2 fun i y hy => ?_⟩
    by_cases hi : i < c.length
    · rw [List.getElem?_append_left hi] at hy
      obtain ⟨v, hv', hV⟩ := VRs_iff.1 hv _ _ hy
      exact ⟨v, by simpa using hv', hV⟩
    · rw [List.getElem?_append_right (by omega)] at hy
      obtain ⟨v, hv', hV⟩ := VRs_iff.1 hvs _ _ hy
      refine ⟨v, ?_, hV⟩
      rw [hc] at hv'
      rw [← hv']
      congr 2
      rw [Nat.succ_mul]
      omega
theorem reads_rows {t e : TypeId} {n : Nat} (ht : P.underlying t = some (.slice e)) (hn : P.cellsOf e = n) {α : Type} {Q : List RV → α → Prop} (hQ : Reads enc P w e Q) : Reads enc P w t (One (IsRows n Q)) := by
  intro m cs x hx hb
  rcases open_slice ht hx with ⟨rfl, rfl⟩ | ⟨a, len, cap, k, m', D, Pl, rfl, _, hl, _, hk, rfl, hel⟩
  · exact ⟨[.nils], [], rfl, ⟨_, rfl, .nil⟩, VRs_one (by simp [VR])⟩
  · have hkc : len ≤ k := by rw [hk]; simpa using hl
    have hbulk : ∀ i, i < len → Rows.uptoBulk (D i) ≤ 1048576 := by
      intro i hi
      have h1 : D i ∈ (List.range len).map D := List.mem_map.2 ⟨i, List.mem_range.2 hi, rfl⟩
      have h2 := bulk_part h1
      have h3 := bulk_slice ((List.range len).map D) ((List.range (k - len)).map fun j => D (len + j))
      simp only at hb
      omega
    have hlen : len ≤ 1048576 := by
      have h2 := bulk_len ((List.range len).map D)
      have h3 := bulk_slice ((List.range len).map D) ((List.range (k - len)).map fun j => D (len + j))
      simp only [List.length_map, List.length_range] at h2
      simp only at hb
      omega
    obtain ⟨cs, xs, hcs, hxs, hr, hv⟩ := rows_of (w := w) (n := n) (Q := Q) (a := a) len 0 (fun i hi => by
      obtain ⟨cs', h1, h2⟩ := hel i (by omega)
      obtain ⟨_, h3, h4⟩ := World.cells?_some h1
      obtain ⟨c, y, h5, h6, h7⟩ := hQ _ _ _ h2 (hbulk i hi)
      refine ⟨c, y, by omega, h6, VRs_iff.2 fun j z hz => ?_⟩
      obtain ⟨v, hv, hV⟩ := VRs_iff.1 h7 _ _ hz
      have hj := (List.getElem?_eq_some_iff.1 hv).1
      refine ⟨v, ?_, hV⟩
      rw [← hv, ← h4 j (by omega), hn, Go.Proofs.Ytknphnmhjmejaaa.add_add, Nat.zero_add])
    subst hxs
    refine ⟨[.ros cs xs.length], xs, rfl, ⟨_, rfl, .mk hr (by omega)⟩, VRs_one ?_⟩
    simp only [VR]
    refine ⟨a, cap, rfl, hl, ?_⟩
    simpa using hv
theorem reads_ints {t e : TypeId} (ht : P.underlying t = some (.slice e)) (he : P.underlying e = some (.int .i64)) (hn : P.cellsOf e = 1) : Reads enc P w t (One IsInts) := by
  intro m cs x hx hb
  obtain ⟨c, a, h1, ⟨X, rfl, h2⟩, h3⟩ := reads_rows ht hn (reads_int he) m cs x hx hb
  refine ⟨[X], a, h1, ⟨X, rfl, ?_⟩, h3⟩
  cases h2 with
  | nil => exact .nil
  | @mk cs _ r hl =>
    have : cs = ints a := by
      clear h3 hl h1
      induction r with
      | nil => rfl
      | cons hc q r ih =>
        obtain ⟨x, rfl, rfl⟩ := q
        rw [ih]
        rfl
    rw [this]
    exact .mk a hl
end
/-! ### Fields -/
section
variable {H : Type} {enc : TypeId × Value → H} {P : Program} {w : World}
/-- A struct's fields, one behind the other. -/
theorem fields_read {t : TypeId} {fs : Array Field} (ht : P.underlying t = some (.struct fs)) {n : Nat} {cs : List Value} {x : DataW H × List MemPlace} (h : trodW enc P w n t cs x) (hb : Rows.uptoBulk x.1 ≤ 1048576) : cs.length = P.cellsOf t ∧
    ∀ (i : Nat) (f : Field), fs[i]? = some f → ∃ m y, trodW enc P w m f.type ((cs.drop f.offset).take (P.cellsOf f.type)) y ∧ Rows.uptoBulk y.1 ≤ 1048576 := by
  obtain ⟨xs, k, rfl, rfl, hl, hxs, hf⟩ := DataW.trod_struct ht h
  refine ⟨hl, fun i f hi => ?_⟩
  have h1 := hf i f hi
  have hlt : i < xs.length := by rw [hxs]; exact (Array.getElem?_eq_some_iff.1 hi).1
  rw [List.getElem?_eq_getElem hlt] at h1
  refine ⟨k, xs[i], h1, ?_⟩
  have h2 : xs[i].1 ∈ xs.map (·.1) := List.mem_map.2 ⟨xs[i], List.getElem_mem hlt, rfl⟩
  have h3 := bulk_part h2
  have h4 := bulk_agg (xs.map (·.1))
  simp only at hb
  omega
/-- One cell, as one field reads it. -/
theorem cell_read {t : TypeId} {α : Type} {Q : RV → α → Prop} (hQ : Reads enc P w t (One Q)) {m : Nat} {cs : List Value} {off : Nat} {y : DataW H × List MemPlace} (h : trodW enc P w m t ((cs.drop off).take 1) y) (hb : Rows.uptoBulk y.1 ≤ 1048576) :
    ∃ v X a, cs[off]? = some v ∧ Q X a ∧ VR (MW w) X v := by
  obtain ⟨c, a, h1, ⟨X, rfl, h2⟩, h3⟩ := hQ _ _ _ h hb
  simp only [VRs, and_true] at h3
  obtain ⟨v, hv, hV⟩ := h3
  refine ⟨v, X, a, ?_, h2, hV⟩
  have := hv
  rw [List.getElem?_take] at this
  simpa using this
theorem VRs_list {M : Mm} : ∀ (c : List RV) (cs : List Value) (k : Nat), (∀ i x, c[i]? = some x → ∃ v, cs[k + i]? = some v ∧ VR M x v) → VRs M c (fun i => cs[k + i]?) := fun c cs k h => VRs_iff.2 h
end
section
variable {H : Type} {enc : TypeId × Value → H} {w : World}
theorem u_int : Try.prog.underlying 3 = some (.int .i64) := by kernel_rfl
theorem u_int64 : Try.prog.underlying 2 = some (.int .i64) := by kernel_rfl
theorem u_bool : Try.prog.underlying 4 = some .bool := by kernel_rfl
theorem u_ints : Try.prog.underlying 24 = some (.slice 3) := by kernel_rfl
theorem u_values : Try.prog.underlying 25 = some (.slice 63) := by kernel_rfl
theorem u_blocks : Try.prog.underlying 26 = some (.slice 40) := by kernel_rfl
theorem u_codes : Try.prog.underlying 22 = some (.slice 28) := by kernel_rfl
theorem c_int : Try.prog.cellsOf 3 = 1 := by kernel_rfl
theorem c_int64 : Try.prog.cellsOf 2 = 1 := by kernel_rfl
theorem c_ints : Try.prog.cellsOf 24 = 1 := by kernel_rfl
theorem c_values : Try.prog.cellsOf 25 = 1 := by kernel_rfl
theorem c_blocks : Try.prog.cellsOf 26 = 1 := by kernel_rfl
theorem c_value : Try.prog.cellsOf 63 = 5 := by kernel_rfl
theorem c_block : Try.prog.cellsOf 40 = 6 := by kernel_rfl
theorem c_code : Try.prog.cellsOf 28 = 4 := by kernel_rfl
noncomputable def fsOf (t : TypeId) : Array Field :=
  match Try.prog.underlying t with
  | some (.struct fs) => fs
  | _ => #[]
theorem u_value : Try.prog.underlying 63 = some (.struct (fsOf 63)) := by kernel_rfl
theorem u_block : Try.prog.underlying 40 = some (.struct (fsOf 40)) := by kernel_rfl
theorem u_code : Try.prog.underlying 28 = some (.struct (fsOf 28)) := by kernel_rfl
/-- A field's type and place. -/
noncomputable def fld (t : TypeId) (i : Nat) : Option (TypeId × Nat) := ((fsOf t)[i]?).map fun f => (f.type, f.offset)
theorem fld_some {t : TypeId} {i : Nat} {ft : TypeId} {off : Nat} (h : fld t i = some (ft, off)) : ∃ f, (fsOf t)[i]? = some f ∧ f.type = ft ∧ f.offset = off := by
  unfold fld at h
  rw [Option.map_eq_some_iff] at h
  obtain ⟨f, h1, h2⟩ := h
  cases h2
  exact ⟨f, h1, rfl, rfl⟩
theorem field_read {t : TypeId} (ht : Try.prog.underlying t = some (.struct (fsOf t))) {n : Nat} {cs : List Value} {x : DataW H × List MemPlace} (h : trodW enc Try.prog w n t cs x) (hb : Rows.uptoBulk x.1 ≤ 1048576) {i : Nat} {ft : TypeId} {off : Nat} (hf : fld t i = some (ft, off))
    (hc : Try.prog.cellsOf ft = 1) {α : Type} {Q : RV → α → Prop} (hQ : Reads enc Try.prog w ft (One Q)) : ∃ v X a, cs[off]? = some v ∧ Q X a ∧ VR (MW w) X v := by
  obtain ⟨f, h1, rfl, rfl⟩ := fld_some hf
  obtain ⟨m, y, h2, h3⟩ := (fields_read ht h hb).2 i f h1
  rw [hc] at h2
  exact cell_read hQ h2 h3
theorem r_ints : Reads enc Try.prog w 24 (One IsInts) := reads_ints u_ints u_int c_int
theorem reads_value : Reads enc Try.prog w 63 IsVl := by
  intro n cs x hx hb
  have hl : cs.length = 5 := by rw [(fields_read u_value hx hb).1, c_value]
  obtain ⟨v0, X0, a0, h0, rfl, k0⟩ := field_read u_value hx hb (i := 0) (ft := 3) (off := 0) (by kernel_rfl) c_int (reads_int u_int)
  obtain ⟨v1, X1, a1, h1, rfl, k1⟩ := field_read u_value hx hb (i := 1) (ft := 3) (off := 1) (by kernel_rfl) c_int (reads_int u_int)
  obtain ⟨v2, X2, a2, h2, q2, k2⟩ := field_read u_value hx hb (i := 2) (ft := 24) (off := 2) (by kernel_rfl) c_ints r_ints
  obtain ⟨v3, X3, a3, h3, rfl, k3⟩ := field_read u_value hx hb (i := 3) (ft := 2) (off := 3) (by kernel_rfl) c_int64 (reads_int u_int64)
  obtain ⟨v4, X4, a4, h4, rfl, k4⟩ := field_read u_value hx hb (i := 4) (ft := 3) (off := 4) (by kernel_rfl) c_int (reads_int u_int)
  refine ⟨[I a0, I a1, X2, I a3, I a4], ⟨a0, a1, a2, a3, a4⟩, by simp [hl], ⟨X2, rfl, q2⟩, ?_⟩
  simp only [VRs, and_true]
  exact ⟨⟨v0, h0, k0⟩, ⟨v1, h1, k1⟩, ⟨v2, h2, k2⟩, ⟨v3, h3, k3⟩, ⟨v4, h4, k4⟩⟩
theorem reads_block : Reads enc Try.prog w 40 IsBlk := by
  intro n cs x hx hb
  have hl : cs.length = 6 := by rw [(fields_read u_block hx hb).1, c_block]
  obtain ⟨v0, X0, a0, h0, rfl, k0⟩ := field_read u_block hx hb (i := 0) (ft := 3) (off := 0) (by kernel_rfl) c_int (reads_int u_int)
  obtain ⟨v1, X1, a1, h1, rfl, k1⟩ := field_read u_block hx hb (i := 1) (ft := 2) (off := 1) (by kernel_rfl) c_int64 (reads_int u_int64)
  obtain ⟨v2, X2, a2, h2, q2, k2⟩ := field_read u_block hx hb (i := 2) (ft := 24) (off := 2) (by kernel_rfl) c_ints r_ints
  obtain ⟨v3, X3, a3, h3, q3, k3⟩ := field_read u_block hx hb (i := 3) (ft := 24) (off := 3) (by kernel_rfl) c_ints r_ints
  obtain ⟨v4, X4, a4, h4, q4, k4⟩ := field_read u_block hx hb (i := 4) (ft := 24) (off := 4) (by kernel_rfl) c_ints r_ints
  obtain ⟨v5, X5, a5, h5, q5, k5⟩ := field_read u_block hx hb (i := 5) (ft := 24) (off := 5) (by kernel_rfl) c_ints r_ints
  refine ⟨[I a0, I a1, X2, X3, X4, X5], ⟨a0, a1, a2, a3, a4, a5⟩, by simp [hl], ⟨X2, X3, X4, X5, rfl, q2, q3, q4, q5⟩, ?_⟩
  simp only [VRs, and_true]
  exact ⟨⟨v0, h0, k0⟩, ⟨v1, h1, k1⟩, ⟨v2, h2, k2⟩, ⟨v3, h3, k3⟩, ⟨v4, h4, k4⟩, ⟨v5, h5, k5⟩⟩
theorem reads_code : Reads enc Try.prog w 28 IsCd := by
  intro n cs x hx hb
  have hl : cs.length = 4 := by rw [(fields_read u_code hx hb).1, c_code]
  obtain ⟨v0, X0, a0, h0, q0, k0⟩ := field_read u_code hx hb (i := 0) (ft := 24) (off := 0) (by kernel_rfl) c_ints r_ints
  obtain ⟨v1, X1, a1, h1, q1, k1⟩ := field_read u_code hx hb (i := 1) (ft := 24) (off := 1) (by kernel_rfl) c_ints r_ints
  obtain ⟨v2, X2, a2, h2, q2, k2⟩ := field_read u_code hx hb (i := 2) (ft := 25) (off := 2) (by kernel_rfl) c_values (reads_rows u_values c_value reads_value)
  obtain ⟨v3, X3, a3, h3, q3, k3⟩ := field_read u_code hx hb (i := 3) (ft := 26) (off := 3) (by kernel_rfl) c_blocks (reads_rows u_blocks c_block reads_block)
  refine ⟨[X0, X1, X2, X3], ⟨a0, a1, a2, a3⟩, by simp [hl], ⟨X0, X1, X2, X3, rfl, q0, q1, q2, q3⟩, ?_⟩
  simp only [VRs, and_true]
  exact ⟨⟨v0, h0, k0⟩, ⟨v1, h1, k1⟩, ⟨v2, h2, k2⟩, ⟨v3, h3, k3⟩⟩
theorem reads_codes : Reads enc Try.prog w 22 (One (IsRows 4 IsCd)) := reads_rows u_codes c_code reads_code
end
/-! ### A law's row -/
theorem own0 : ownKnob Try.prog.godebug = none := by kernel_rfl
theorem laid0 : laidOutB Try.prog = true := by kernel_rfl
section
variable {H : Type} {enc : TypeId × Value → H} {P : Program}
theorem kept_of_fr {W W' : World} (f : Fr (fun _ => False) W W') (may : MemPlace → Prop) : W.keptBut W' may := by
  refine ⟨f.os, f.output, fun i hi => ?_⟩
  rw [f.block i hi (fun h => h)]
  exact (World.keptBut_refl W may).2.2 i hi
theorem post_true {f : Func} {s : ChangeSpec} {t tb : TypeId} {apart fresh handsOn again : Bool} (hl : laidOutB P = true) (hr : P.readableRec t = true) (hrow : t < P.types.size) (hb : P.underlying tb = some .bool) (hpar : f.params.toList = [t]) (hrt : f.resultTypes = #[tb]) (hvar : s.vars = [])
    {W W' : World} {v0 : Value} {d : DataW H} {before : List MemPlace} (hfn : s.fn H ([d] ++ []) = { results := [.lit (.bool true)], args := [d] }) (hW : DataW.Whole enc P f.params.toList s.vars apart W [v0] [d] [] before) (hfr : Fr (fun _ => False) W W') :
    s.post enc P f apart fresh handsOn again W #[v0] (.bool true) W' := by
  have hW' := hW
  obtain ⟨p, q, hA, hV, hpq, hz, hn⟩ := hW
  rw [hpar] at hA
  rw [hvar] at hV
  have hq : q = [] := by simpa [DataW.TrodVars] using hV
  subst hq
  rw [List.append_nil] at hpq
  subst hpq
  obtain ⟨p1, p2, ⟨n, hd⟩, h2, hp⟩ := hA
  have hp2 : p2 = [] := by simpa [DataW.TrodAll] using h2
  subst hp2
  rw [List.append_nil] at hp
  subst hp
  have hlt : ∀ x ∈ before, x.block < W.heap.size := hW'.lt
  have good := DataW.trod_good (kids_book hl hr) (fun h => by cases h) n t _ _ ⟨hrow, book_self t⟩ hd
  have stays : ∀ sp : Nat → Bool, (∀ x ∈ before, sp x.block = true) → DataW.trod enc P W' 0 sp true n t v0.cells.toList = some (d, before) := fun sp hsp =>
    DataW.trod_stays (kids_book hl hr) (book_sized hr) (fun h => by cases h) ⟨hrow, book_self t⟩ hd (fun x hx => by
      have hx' := hlt x hx
      have hb := hfr.block x.block hx' (fun h => h)
      cases x with
      | cell b off => simp only [World.sameAt, World.cell?]; simp only [MemPlace.block] at hb; rw [hb]
      | map b => simp only [World.sameAt]; exact hb) hsp
  have hargs : ∀ sp : Nat → Bool, (∀ x ∈ before, sp x.block = true) → DataW.TrodAll enc P W' 0 sp true f.params.toList [v0] [d] before := by
    intro sp hsp
    rw [hpar]
    exact ⟨before, [], ⟨n, stays sp hsp⟩, rfl, by simp⟩
  have hres : ∀ (b : Nat) (sp : Nat → Bool) (hd : Bool), DataW.TrodAll enc P W' b sp hd f.resultTypes.toList ((Value.bool true).resultList f.resultTypes.size) (s.fn H ([d] ++ [])).results [] := by
    intro b sp hd
    rw [hfn, hrt]
    exact trodAll_cons_mk (shut_bool hb _) trodAll_mk0
  have hold : ∀ x ∈ before, (fun b => decide (b < W.heap.size)) x.block = true := fun x hx => by simpa using hlt x hx
  have hfna : (s.fn H ([d] ++ [])).args = [d] := by rw [hfn]
  have hfnv : (s.fn H ([d] ++ [])).vars = [] := by rw [hfn]
  have hargs0 : ∀ sp : Nat → Bool, (∀ x ∈ before, sp x.block = true) → DataW.TrodAll enc P W' 0 sp true f.params.toList [v0] (s.fn H ([d] ++ [])).args before := fun sp h => by rw [hfna]; exact hargs sp h
  have hvars0 : ∀ sp : Nat → Bool, DataW.TrodVars enc P W' sp s.vars (s.fn H ([d] ++ [])).vars [] := fun sp => by rw [hvar, hfnv]; rfl
  refine ⟨[d], [], before, [], before, [], hW', hres _ _ _, hargs0 _ hold, hvars0 _, World.keptBut_mono (fun x hx => ⟨hx, .inr (by simpa using hx)⟩) (kept_of_fr hfr _), fun _ => ?_⟩
  refine ⟨?_, _, _, ([] ++ before) ++ [], ⟨[] ++ before, [], trodAll_append (hargs0 _ (fun _ _ => rfl)) (hres _ _ _), hvars0 _, rfl, ?_, ?_⟩, ?_⟩
  · exact ok_one hrt rfl (okWide_bool_mk hb _)
  · intro b off hp
    have hp' : MemPlace.cell b off ∈ before := by simpa using hp
    have h1 := hz b off hp'
    have h2 := hfr.block b (hlt _ hp') (fun h => h)
    simp only [World.frozen?] at h1 ⊢
    have h2 : W'.heap[b]? = W.heap[b]? := h2
    rw [h2]
    exact h1
  · intro ha
    simpa using hn ha
  · intro x hx _
    simpa using hx
/-- What a law's function tells of an argument, as its row asks it. -/
theorem row_contract {f : FuncId} {fn : Func} {s : ChangeSpec} {t tb : TypeId} (hl : laidOutB P = true) (hr : P.readableRec t = true) (hrow : t < P.types.size) (hb : P.underlying tb = some .bool) (hpar : fn.params.toList = [t]) (hst : ∃ e, P.underlying t = some (.slice e)) (hrt : fn.resultTypes = #[tb]) (hvar : s.vars = [])
    (hfn : ∀ d : DataW H, s.fn H ([d] ++ []) = { results := [.lit (.bool true)], args := [d] }) {α : Type} {Q : RV → α → Prop} {F : List RV → Option Res} (good : GoodC P f (.pure F)) (hF : ∀ X a, Q X a → F [X] = some (.ret (.bool true)))
    {W : World} {base : Nat} {args : Array Value} {ds gs : List (DataW H)} {before : List MemPlace} (hval : ∀ (j : Nat) t v, fn.params[j]? = some t → args[j]? = some v → Value.okWide P W .any base t v) (hQ : Reads enc P W t (One Q)) (hW : DataW.Whole enc P fn.params.toList s.vars false W args.toList ds gs before) (hk : Rows.uptoSmall H (ds ++ gs) = true) :
    Calls P f args W fun e W' => ∃ v, e = .returned v ∧ s.post enc P fn false true false false W args v W' := by
  have hW' := hW
  obtain ⟨p, q, hA, hV, hpq, hz, hn⟩ := hW
  rw [hpar] at hA
  rw [hvar] at hV
  have hgs : gs = [] := by
    cases gs with
    | nil => rfl
    | cons g gs => simp [DataW.TrodVars] at hV
  subst hgs
  obtain ⟨v0, vs, d, ds', p1, p2, ha, rfl, hp, hd, h2⟩ := trodAll_cons hA
  obtain ⟨rfl, rfl, rfl⟩ := trodAll_nil h2
  have hargs : args = #[v0] := by rw [← Array.toList_inj]; exact ha
  subst hargs
  obtain ⟨n, hd⟩ := hd
  have hbulk : Rows.uptoBulk d ≤ 1048576 := by
    have := of_decide_eq_true hk
    simp only [List.append_nil, Rows.uptoBulkAll] at this
    omega
  obtain ⟨c, a, hc, ⟨X, rfl, hX⟩, hv⟩ := hQ n _ _ hd hbulk
  have hv1 : v0.cells.toList = [v0] := by
    obtain ⟨e, he⟩ := hst
    have hp0 : fn.params[0]? = some t := by rw [← Array.getElem?_toList, hpar]; rfl
    obtain ⟨a, len, cap, rfl⟩ := okWide_slice he (hval 0 t v0 hp0 rfl)
    rfl
  rw [hv1] at hv
  obtain ⟨_, hP⟩ := good
  refine (hP [X] _ (hF X a hX) (MW W) W #[v0] (fun a v h => h) rfl (by simpa using hv)).mono fun e W' ⟨M', _, _, _, hfr, u, he, hu⟩ => ?_
  simp only [VR] at hu
  subst hu
  exact ⟨_, he, post_true hl hr hrow hb hpar hrt hvar (hfn d) hW' hfr⟩
end
end Go.Proofs.Ytknphnmhjmejaaa
