/-  Lists of numbers and what else of values held still: what they stand for, and how they are read. No conditions. -/
import Derived.Test.YtknphnmhjmejaaaAmSj
namespace Go.Proofs.Ytknphnmhjmejaaa
set_option linter.unusedVariables false
abbrev I (n : Int) : RV := .int .i64 n
def ints (xs : List Int) : List RV := xs.map I
/-- A list of numbers. -/
inductive IsInts : RV → List Int → Prop
  | nil : IsInts .nils []
  | mk (xs : List Int) (h : xs.length < 1000000000) : IsInts (.ros (ints xs) xs.length) xs
section
variable {R : Type} {h : Hp} {l : RV} {xs : List Int}
theorem bsp_of {b : Bool} {x y : Option R} (e : b = true) : bsp b x y = x := by subst e; rfl
theorem bsp_not {b : Bool} {x y : Option R} (e : b = false) : bsp b x y = y := by subst e; rfl
theorem bsp_if {c : Prop} [Decidable c] {x y : Option R} : bsp (decide c) x y = if c then x else y := by
  by_cases e : c <;> simp [e, bsp]
theorem IsInts.len (k : IsInts l xs) (K : Int → Option R) : lna (.rv l) K = K xs.length := by
  cases k <;> rfl
theorem IsInts.short (k : IsInts l xs) : xs.length < 1000000000 := by
  cases k
  · simp
  · assumption
theorem oneI (n : Int) : oneA (.rv (I n)) = true := rfl
theorem IsInts.cells (k : IsInts l xs) : vcells (.rv l) = some [.rv l] := by
  cases k <;> rfl
theorem IsInts.one (k : IsInts l xs) : oneA (.rv l) = true := by
  cases k <;> rfl
theorem IsInts.at (k : IsInts l xs) {i : Nat} (hi : i < xs.length) (K : Int → Option R) : (ixa 1 (.rv l) i fun p => ldi .i64 h p K) = K xs[i] := by
  cases k
  · simp at hi
  · have : ((i : Int) < xs.length) := by omega
    simp [ixa, ldi, ldv, cellAt, asInt0, ints, hi]
theorem wri_small {n : Int} (h0 : -9223372036854775808 ≤ n) (h1 : n ≤ 9223372036854775807) : wri .i64 n = n := by
  simp [wri, IntKind.wrap, IntKind.bits, IntKind.signed]
  omega
theorem wri_succ {i : Nat} (h : i < 9223372036854775807) : wri .i64 ((i : Int) + 1) = ((i + 1 : Nat) : Int) := by
  rw [wri_small] <;> omega
end
/-! ### The heap -/
section
variable {R : Type} {h : Hp}
theorem box_agg {cs : List RV} (K : AV → Hp → Option R) : nwc 1 (vcells (.rv (.agg cs))) h K = K (.ptr h.length 0 0) (h ++ [⟨0, 1, cs.map .rv⟩]) := by
  simp only [nwc, vcells]
theorem pad_ptr {o v off n : Nat} (K : AV → Option R) : pad (.ptr o v off) n K = K (.ptr o v (off + n)) := by
  simp only [pad]
theorem ldv_at {o v e off : Nat} {cs : List AV} {x : AV} (ho : h[o]? = some ⟨v, e, cs⟩) (hx : cs[off]? = some x) (K : AV → Option R) : ldv h (.ptr o v off) K = K x := by
  simp [ldv, cellAt, ho, hx]
theorem cellsN_at {o v e : Nat} {cs : List AV} (ho : h[o]? = some ⟨v, e, cs⟩) : ∀ (n j : Nat), j + n ≤ cs.length → cellsN h (.ptr o v 0) j n = some ((cs.drop j).take n)
  | 0, j, _ => by simp [cellsN]
  | n + 1, j, hj => by
    have hlt : j < cs.length := by omega
    rw [List.drop_eq_getElem_cons hlt, List.take_succ_cons]
    simp only [cellsN, cellAt, ho, Nat.zero_add, if_true, List.getElem?_eq_getElem hlt, cellsN_at ho n (j + 1) (by omega)]
theorem ldg_at {o v e n : Nat} {cs : List AV} (ho : h[o]? = some ⟨v, e, cs⟩) (hn : cs.length = n) (K : AV → Option R) : ldg n h (.ptr o v 0) K = K (.agg cs) := by
  subst hn
  simp [ldg, cellsN_at ho cs.length 0 (by omega)]
theorem ldi_at {o v e off : Nat} {k : IntKind} {cs : List AV} {n : Int} (ho : h[o]? = some ⟨v, e, cs⟩) (hx : cs[off]? = some (.rv (.int k n))) (K : Int → Option R) : ldi k h (.ptr o v off) K = K n := by
  simp [ldi, ldv, cellAt, ho, hx, asInt0]
theorem asBool_b {b : Bool} (K : Bool → Option R) : asBool (.rv (.bool b)) K = K b := by
  simp only [asBool]
theorem asInt_i {k : IntKind} {n : Int} (K : Int → Option R) : asInt k (.rv (.int k n)) K = K n := by
  simp [asInt]
theorem ldg6 {a b c d e f : RV} {rest : List RV} (K : AV → Option R) : ldg 6 h (.rv (.rop (a :: b :: c :: d :: e :: f :: rest))) K = K (.agg [.rv a, .rv b, .rv c, .rv d, .rv e, .rv f]) := rfl
theorem ldg5 {a b c d e : RV} {rest : List RV} (K : AV → Option R) : ldg 5 h (.rv (.rop (a :: b :: c :: d :: e :: rest))) K = K (.agg [.rv a, .rv b, .rv c, .rv d, .rv e]) := rfl
theorem pad_rop {cs : List RV} {n : Nat} (K : AV → Option R) : pad (.rv (.rop cs)) n K = K (.rv (.rop (cs.drop n))) := by
  simp only [pad]
theorem pad_rop4 {a b c d e : RV} {rest : List RV} (K : AV → Option R) : pad (.rv (.rop (a :: b :: c :: d :: e :: rest))) 4 K = K (.rv (.rop (e :: rest))) := by
  simp only [pad, List.drop]
theorem pad_rop3 {a b c d : RV} {rest : List RV} (K : AV → Option R) : pad (.rv (.rop (a :: b :: c :: d :: rest))) 3 K = K (.rv (.rop (d :: rest))) := by
  simp only [pad, List.drop]
theorem ldv_rop {a : RV} {rest : List RV} (K : AV → Option R) : ldv h (.rv (.rop (a :: rest))) K = K (.rv a) := by
  simp [ldv, cellAt]
theorem callP_ret {F : List RV → Option Res} {args : List AV} {rs : List RV} {r : RV} (ha : args.mapM (toRV h depthA) = some rs) (hF : F rs = some (.ret r)) (hf : args.all isRV = true ∨ flatR r = true) (K Kp : AV → Option R) :
    callP F h args K Kp = K (.rv r) := by
  simp only [callP, ha, hF, hf, if_true]
theorem setAt_get (cs : List AV) : ∀ (l : List AV) (off i : Nat), (setAt l off cs)[i]? = if off ≤ i ∧ i < off + cs.length ∧ i < l.length then cs[i - off]? else l[i]? := by
  induction cs with
  | nil => intro l off i; simp [setAt]; intro a b; omega
  | cons c cs ih =>
    intro l off i
    rw [setAt, ih]
    simp only [List.length_set, List.length_cons, List.getElem?_set]
    by_cases h1 : off = i
    · subst h1
      by_cases h2 : off < l.length
      · simp [h2]
        intro a
        omega
      · simp [h2]
    · by_cases h2 : off ≤ i ∧ i < off + (cs.length + 1) ∧ i < l.length
      · have h3 : off + 1 ≤ i ∧ i < off + 1 + cs.length ∧ i < l.length := by omega
        rw [if_pos h3, if_pos h2]
        obtain ⟨j, rfl⟩ : ∃ j, i = off + 1 + j := ⟨i - off - 1, by omega⟩
        rw [show off + 1 + j - off = j + 1 by omega, show off + 1 + j - (off + 1) = j by omega]
        simp
      · have h3 : ¬ (off + 1 ≤ i ∧ i < off + 1 + cs.length ∧ i < l.length) := by omega
        rw [if_neg h3, if_neg h2, if_neg h1]
theorem setAt_whole {l cs : List AV} (e : l.length = cs.length) : setAt l 0 cs = cs := by
  apply List.ext_getElem?
  intro i
  rw [setAt_get]
  by_cases hi : i < l.length
  · rw [if_pos (by omega)]; simp
  · rw [if_neg (by omega), List.getElem?_eq_none (by omega), List.getElem?_eq_none (by omega)]
theorem setAt_one {l : List AV} {off : Nat} {x : AV} : setAt l off [x] = l.set off x := by
  simp [setAt]
theorem nwc_some {l : List AV} (K : AV → Hp → Option R) : nwc 1 (some l) h K = K (.ptr h.length 0 0) (h ++ [⟨0, 1, l⟩]) := by
  simp only [nwc]
theorem stv_whole {o v e n : Nat} {cs vals : List AV} (ho : h[o]? = some ⟨v, e, cs⟩) (hn : cs.length = n) (hv : vals.length = n) (h1 : vals.all oneA = true) (K : Hp → Option R) : stv n h (.ptr o v 0) (.agg vals) K = K (h.set o ⟨v, e, vals⟩) := by
  have hs : setAt cs 0 vals = vals := setAt_whole (by omega)
  simp [stv, vcells, ho, hn, hv, h1, hs]
theorem fin_agg {o v e n : Nat} {cs : List AV} (ho : h[o]? = some ⟨v, e, cs⟩) (hn : cs.length = n) : finR ((cellsN h (.ptr o v 0) 0 n).map .agg) h = some (.ret (.agg cs), h) := by
  subst hn
  simp [cellsN_at ho cs.length 0 (by omega), finR]
/-- A variable that is laid and given its value. -/
theorem var_agg {z vals : List AV} {n : Nat} (hn : vals.length = n) (hz : z.length = n) (h1 : vals.all oneA = true) (K : AV → Hp → Option R) :
    (nwc 1 (some z) h fun p h2 => stv n h2 p (.agg vals) fun h3 => K p h3) = K (.ptr h.length 0 0) (h ++ [⟨0, 1, vals⟩]) := by
  have hs : setAt z 0 vals = vals := setAt_whole (by omega)
  simp [nwc, stv, vcells, hn, hz, h1, hs]
theorem get_old {o : Nat} {ob : Ob} (ho : h[o]? = some ob) (l : Hp) : (h ++ l)[o]? = some ob := by
  rw [List.getElem?_append_left (List.getElem?_eq_some_iff.1 ho).1]
  exact ho
theorem get_new (ob : Ob) : (h ++ [ob])[h.length]? = some ob := by simp
end
/-! ### Rows of some cells each -/
inductive Rows {α : Type} (n : Nat) (Q : List RV → α → Prop) : List RV → List α → Prop
  | nil : Rows n Q [] []
  | cons {c cs : List RV} {a : α} {as' : List α} (hc : c.length = n) (q : Q c a) (r : Rows n Q cs as') : Rows n Q (c ++ cs) (a :: as')
theorem Rows.at {α : Type} {n : Nat} {Q : List RV → α → Prop} {cs : List RV} {l : List α} (r : Rows n Q cs l) : ∀ {i : Nat} (hi : i < l.length), ∃ c rest, cs.drop (i * n) = c ++ rest ∧ c.length = n ∧ Q c l[i] := by
  induction r with
  | nil => intro i hi; simp at hi
  | @cons c cs a l hc q r ih =>
    intro i hi
    cases i with
    | zero => exact ⟨c, cs, by simp, hc, q⟩
    | succ i =>
      obtain ⟨c', rest, h1, h2, h3⟩ := ih (i := i) (by simpa using hi)
      refine ⟨c', rest, ?_, h2, by simpa using h3⟩
      rw [← h1, Nat.succ_mul, Nat.add_comm, ← List.drop_drop]
      congr 1
      rw [← hc]
      simp
theorem Rows.length {α : Type} {n : Nat} {Q : List RV → α → Prop} {cs : List RV} {l : List α} (r : Rows n Q cs l) : cs.length = l.length * n := by
  induction r with
  | nil => simp
  | cons hc q r ih => simp [hc, ih, Nat.succ_mul]; omega
inductive IsRows {α : Type} (n : Nat) (Q : List RV → α → Prop) : RV → List α → Prop
  | nil : IsRows n Q .nils []
  | mk {cs : List RV} {l : List α} (r : Rows n Q cs l) (h : l.length < 1000000000) : IsRows n Q (.ros cs l.length) l
section
variable {R : Type} {h : Hp} {α : Type} {n : Nat} {Q : List RV → α → Prop} {l : RV} {xs : List α}
theorem IsRows.len (k : IsRows n Q l xs) (K : Int → Option R) : lna (.rv l) K = K xs.length := by
  cases k <;> rfl
theorem IsRows.short (k : IsRows n Q l xs) : xs.length < 1000000000 := by
  cases k
  · simp
  · assumption
theorem IsRows.cells (k : IsRows n Q l xs) : vcells (.rv l) = some [.rv l] := by
  cases k <;> rfl
theorem IsRows.one (k : IsRows n Q l xs) : oneA (.rv l) = true := by
  cases k <;> rfl
theorem IsRows.at (k : IsRows n Q l xs) {i : Nat} (hi : i < xs.length) : ∃ c rest, c.length = n ∧ Q c xs[i] ∧ ∀ (K : AV → Option R), ixa n (.rv l) i K = K (.rv (.rop (c ++ rest))) := by
  cases k with
  | nil => simp at hi
  | mk r hl =>
    obtain ⟨c, rest, h1, h2, h3⟩ := r.at hi
    refine ⟨c, rest, h2, h3, fun K => ?_⟩
    have : ((i : Int) < xs.length) := by omega
    simp [ixa, hi, h1]
end
/-! ### Lists that grow, and are written -/
section
variable {R : Type} {h : Hp}
theorem get_set_ne {o o2 : Nat} {ob ob2 : Ob} (hn : o ≠ o2) (ho : h[o2]? = some ob2) : (h.set o ob)[o2]? = some ob2 := by
  rw [List.getElem?_set_ne hn]; exact ho
theorem get_set_eq {o : Nat} {ob ob2 : Ob} (ho : h[o]? = some ob2) : (h.set o ob)[o]? = some ob := by
  rw [List.getElem?_set_self (List.getElem?_eq_some_iff.1 ho).1]
theorem get_lt {o : Nat} {ob : Ob} (ho : h[o]? = some ob) : o < h.length := (List.getElem?_eq_some_iff.1 ho).1
theorem sl_at {o v len i : Nat} (hi : i < len) (K : AV → Option R) : ixa 1 (.sl o v 0 len) i K = K (.ptr o v i) := by
  have : (i : Int) < len := by omega
  simp [ixa, hi]
theorem mks_one {z : AV} {b : Nat} {n : Nat} (hn : n < 17592186044415) (hb : b ≤ 8) (K : AV → Hp → Option R) : mks 1 b [z] h n K = K (.sl h.length 0 0 n) (h ++ [⟨0, 1, zrep [z] n⟩]) := by
  have h1 : (n : Int) ≤ room := by simp [room]; omega
  have h2 : (b : Int) * (n : Int) ≤ room := by
    have : (b : Int) * (n : Int) ≤ 8 * n := Int.mul_le_mul_of_nonneg_right (by omega) (by omega)
    simp [room]; omega
  simp [mks, h1, h2]
theorem sl_len {o v off len : Nat} (K : Int → Option R) : lna (.sl o v off len) K = K len := by
  simp only [lna]
theorem stv_at {o v e i : Nat} {cs : List AV} {x : AV} (ho : h[o]? = some ⟨v, e, cs⟩) (hi : i < cs.length) (hx : oneA x = true) (hc : vcells x = some [x]) (K : Hp → Option R) : stv 1 h (.ptr o v i) x K = K (h.set o ⟨v, e, cs.set i x⟩) := by
  have : i + 1 ≤ cs.length := hi
  simp [stv, hc, ho, this, hx, setAt]
theorem bsl_one {z x : AV} (hc : vcells x = some [x]) (K : AV → Hp → Option R) : bsl 1 1 [z] [(some (0, 1), x)] h K = K (.sl h.length 0 0 1) (h ++ [⟨0, 1, [x]⟩]) := by
  simp [bsl, fillA, hc, zrep, setAt]
theorem apn_one {o v len : Nat} {cs : List AV} {x : AV} (ho : h[o]? = some ⟨v, 1, cs⟩) (hl : cs.length = len) (hr : len < 17592186044415) (hx : oneA x = true) (K : AV → Hp → Option R) :
    apn 1 8 (h ++ [⟨0, 1, [x]⟩]) (.sl o v 0 len) (.sl h.length 0 0 1) K = K (.sl o (v + 1) 0 (len + 1)) ((h ++ [(⟨0, 1, [x]⟩ : Ob)]).set o ⟨v + 1, 1, cs ++ [x]⟩) := by
  have h1 := get_old ho [⟨0, 1, [x]⟩]
  have h2 : ((len + 1 : Nat) : Int) ≤ room := by simp [room]; omega
  have h3 : (8 : Int) * ((len + 1 : Nat) : Int) ≤ room := by simp [room]; omega
  have h4 : cs.take len = cs := List.take_of_length_le (by omega)
  have h5 : len ≤ cs.length := by omega
  simp only [apn, wcells, get_new, h1]
  simp only [List.length_cons, List.length_nil, Nat.mul_one, List.drop_zero, List.take, Nat.zero_add, Nat.le_refl, and_self, if_true, h5, true_and]
  rw [if_pos ⟨h2, h3, by simp [hx]⟩, h4]
theorem apn_nil {x : AV} (hx : oneA x = true) (K : AV → Hp → Option R) :
    apn 1 8 (h ++ [⟨0, 1, [x]⟩]) (.rv .nils) (.sl h.length 0 0 1) K = K (.sl (h.length + 1) 0 0 1) ((h ++ [⟨0, 1, [x]⟩]) ++ [⟨0, 1, [x]⟩]) := by
  simp [apn, wcells, room, hx]
end
theorem Rows.push {α : Type} {n : Nat} {Q : List RV → α → Prop} {cs c : List RV} {l : List α} {a : α} (r : Rows n Q cs l) (hc : c.length = n) (q : Q c a) : Rows n Q (cs ++ c) (l ++ [a]) := by
  induction r with
  | nil => simpa using Rows.cons hc q .nil
  | cons hc' q' r ih => simpa [List.append_assoc] using Rows.cons hc' q' ih
/-- A list of rows that a function of ours makes. -/
inductive RowsAt {α : Type} (n : Nat) (Q : List RV → α → Prop) (h : Hp) : AV → List α → Prop
  | nil : RowsAt n Q h (.rv .nils) []
  | mk {o v : Nat} {cs : List RV} {l : List α} (ho : h[o]? = some ⟨v, n, cs.map .rv⟩) (r : Rows n Q cs l) : RowsAt n Q h (.sl o v 0 l.length) l
theorem mapM_rvs {h : Hp} (n : Nat) (cs : List RV) : (cs.map AV.rv).mapM (toRV h (n + 1)) = some cs := by
  induction cs with
  | nil => rfl
  | cons b bs ih => simp only [List.map_cons, List.mapM_cons, toRV, ih]; rfl
theorem RowsAt.done {α : Type} {n : Nat} {Q : List RV → α → Prop} {h : Hp} {v : AV} {l : List α} (k : RowsAt n Q h v l) (hl : l.length < 1000000000) : ∃ x, toRV h depthA v = some x ∧ IsRows n Q x l := by
  cases k with
  | nil => exact ⟨.nils, rfl, .nil⟩
  | @mk o v cs l ho r =>
    refine ⟨.ros cs l.length, ?_, .mk r hl⟩
    have h1 : ((cs.map AV.rv).drop 0).take (l.length * n) = cs.map AV.rv := by
      rw [List.drop_zero, List.take_of_length_le (by simp [r.length])]
    simp only [depthA, toRV, ho]
    rw [if_pos (by simp [r.length]), h1, mapM_rvs]
    rfl
theorem setAt_rvs {z : List AV} {vals : List AV} (e : z.length = vals.length) : fillA (zrep z 1) [(some (0, vals.length), .agg vals)] = some vals := by
  have h1 : zrep z 1 = z := by simp [zrep]
  simp [fillA, vcells, h1, e, setAt_whole e]
theorem RowsAt.push {R : Type} {α : Type} {n b : Nat} {Q : List RV → α → Prop} {h : Hp} {v : AV} {l : List α} (k : RowsAt n Q h v l) (hl : l.length < 1000000000) (hn : 0 < n) (hb : b ≤ 1000) {z : List AV} {c : List RV} {a : α} (hz : z.length = n) (hc : c.length = n)
    (q : Q c a) (h1 : (c.map AV.rv).all oneA = true) : ∃ w h3, (∀ K : AV → Hp → Option R, (bsl n 1 z [(some (0, n), .rv (.agg c))] h fun u h2 => apn n b h2 v u fun w h3 => K w h3) = K w h3) ∧ RowsAt n Q h3 w (l ++ [a]) := by
  have e1 : ∀ K : AV → Hp → Option R, bsl n 1 z [(some (0, n), .rv (.agg c))] h K = K (.sl h.length 0 0 1) (h ++ [⟨0, n, c.map .rv⟩]) := by
    intro K
    have h2 : zrep z 1 = z := by simp [zrep]
    simp [bsl, fillA, vcells, h2, hc, hz, setAt_whole (show z.length = (c.map AV.rv).length by simp [hc, hz])]
  have hw : wcells n (h ++ [⟨0, n, c.map .rv⟩]) (.sl h.length 0 0 1) = some (1, c.map .rv) := by
    simp only [wcells, get_new]
    rw [if_pos (by simp [hc])]
    simp only [List.drop_zero]
    rw [List.take_of_length_le (by simp [hc])]
  cases k with
  | nil =>
    refine ⟨.sl (h.length + 1) 0 0 1, (h ++ [⟨0, n, c.map .rv⟩]) ++ [⟨0, n, c.map .rv⟩], fun K => ?_, ?_⟩
    · rw [e1]
      simp only [apn, hw]
      rw [if_neg (by omega), if_pos ⟨by simp [room], by simp [room]; omega, h1⟩]
      simp
    · have := RowsAt.mk (n := n) (Q := Q) (h := (h ++ [⟨0, n, c.map .rv⟩]) ++ [⟨0, n, c.map .rv⟩]) (o := h.length + 1) (v := 0) (cs := c) (l := [a]) (by simp) (by simpa using Rows.cons hc q .nil)
      exact this
  | @mk o v cs l ho r =>
    have h2 := get_old ho [⟨0, n, c.map .rv⟩]
    refine ⟨.sl o (v + 1) 0 (l.length + 1), (h ++ [(⟨0, n, c.map .rv⟩ : Ob)]).set o ⟨v + 1, n, (cs ++ c).map .rv⟩, fun K => ?_, ?_⟩
    · rw [e1]
      simp only [apn, hw, h2]
      have h4 : ((l.length + 1 : Nat) : Int) ≤ room := by simp [room]; omega
      have h5 : (b : Int) * ((l.length + 1 : Nat) : Int) ≤ room := by
        have : (b : Int) * ((l.length + 1 : Nat) : Int) ≤ 1000 * ((l.length + 1 : Nat) : Int) := Int.mul_le_mul_of_nonneg_right (by omega) (by omega)
        have hr : room = 140737488355328 := rfl
        rw [hr]
        omega
      rw [if_pos ⟨trivial, trivial, trivial, by simp [r.length], h4, h5, h1⟩, List.take_of_length_le (by simp [r.length]), List.map_append]
    · have := RowsAt.mk (n := n) (Q := Q) (h := (h ++ [(⟨0, n, c.map .rv⟩ : Ob)]).set o ⟨v + 1, n, (cs ++ c).map .rv⟩) (get_set_eq h2) (r.push hc q)
      rw [List.length_append] at this
      exact this
/-! ### What the program speaks of -/
structure Blk where
  kind : Int
  n : Int
  args : List Int
  preds : List Int
  succs : List Int
  list : List Int
structure Vl where
  op : Int
  kind : Int
  args : List Int
  n : Int
  m : Int
structure Cd where
  params : List Int
  results : List Int
  values : List Vl
  blocks : List Blk
structure Lp where
  head : Int
  outer : Int
  depth : Int
  body : List Int
def IsBlk (c : List RV) (b : Blk) : Prop := ∃ a p s t, c = [I b.kind, I b.n, a, p, s, t] ∧ IsInts a b.args ∧ IsInts p b.preds ∧ IsInts s b.succs ∧ IsInts t b.list
def IsVl (c : List RV) (v : Vl) : Prop := ∃ a, c = [I v.op, I v.kind, a, I v.n, I v.m] ∧ IsInts a v.args
def IsCd (c : List RV) (d : Cd) : Prop := ∃ p r v b, c = [p, r, v, b] ∧ IsInts p d.params ∧ IsInts r d.results ∧ IsRows 5 IsVl v d.values ∧ IsRows 6 IsBlk b d.blocks
theorem blk_at {R : Type} {l : RV} {bs : List Blk} (k : IsRows 6 IsBlk l bs) {i : Nat} (hi : i < bs.length) : ∃ a p s t rest, IsInts a bs[i].args ∧ IsInts p bs[i].preds ∧ IsInts s bs[i].succs ∧ IsInts t bs[i].list ∧
    ∀ (K : AV → Option R), ixa 6 (.rv l) i K = K (.rv (.rop (I bs[i].kind :: I bs[i].n :: a :: p :: s :: t :: rest))) := by
  obtain ⟨c, rest, _, ⟨a, p, s, t, rfl, h1, h2, h3, h4⟩, hx⟩ := k.at hi
  exact ⟨a, p, s, t, rest, h1, h2, h3, h4, hx⟩
theorem vl_at {R : Type} {l : RV} {vs : List Vl} (k : IsRows 5 IsVl l vs) {i : Nat} (hi : i < vs.length) : ∃ a rest, IsInts a vs[i].args ∧
    ∀ (K : AV → Option R), ixa 5 (.rv l) i K = K (.rv (.rop (I vs[i].op :: I vs[i].kind :: a :: I vs[i].n :: I vs[i].m :: rest))) := by
  obtain ⟨c, rest, _, ⟨a, rfl, h1⟩, hx⟩ := k.at hi
  exact ⟨a, rest, h1, hx⟩
def IsLp (c : List RV) (l : Lp) : Prop := ∃ b, c = [I l.head, I l.outer, I l.depth, b] ∧ IsInts b l.body
end Go.Proofs.Ytknphnmhjmejaaa
