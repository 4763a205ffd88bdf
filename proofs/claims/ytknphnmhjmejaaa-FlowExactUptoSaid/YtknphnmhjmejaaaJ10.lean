/- Joined texts: Lib, Fa, Bfs, Fb, Fe, Ha, Hb, Dfs. No conditions but those of each. -/
import Derived.Test.YtknphnmhjmejaaaJ6
import Derived.Test.YtknphnmhjmejaaaJ7
import Derived.Test.YtknphnmhjmejaaaJ8
/-  Lists of numbers and what else of values held still: what they stand for, and how they are read. No conditions. -/
namespace Go.Proofs.Ytknphnmhjmejaaa
set_option linter.unusedVariables false
abbrev I (n : Int) : RV := .int .i64 n
def ints (xs : List Int) : List RV := xs.map I
/-- A list of numbers. -/
inductive IsInts : RV → List Int → Prop
  | nil : IsInts .nils []
  | mk (xs : List Int) (h : xs.length < 1000000000) : IsInts (.ros (ints xs) xs.length) xs
section
variable {R : Type} {h : Hp} {l : RV} {xs : List Int}
theorem bsp_of {b : Bool} {x y : Option R} (e : b = true) : bsp b x y = x := by subst e; rfl
theorem bsp_not {b : Bool} {x y : Option R} (e : b = false) : bsp b x y = y := by subst e; rfl
theorem bsp_if {c : Prop} [Decidable c] {x y : Option R} : bsp (decide c) x y = if c then x else y := by
  by_cases e : c <;> simp [e, bsp]
theorem IsInts.len (k : IsInts l xs) (K : Int → Option R) : lna (.rv l) K = K xs.length := by
  cases k <;> rfl
theorem IsInts.short (k : IsInts l xs) : xs.length < 1000000000 := by
  cases k
  · simp
  · assumption
theorem oneI (n : Int) : oneA (.rv (I n)) = true := rfl
theorem IsInts.cells (k : IsInts l xs) : vcells (.rv l) = some [.rv l] := by
  cases k <;> rfl
theorem IsInts.one (k : IsInts l xs) : oneA (.rv l) = true := by
  cases k <;> rfl
theorem IsInts.at (k : IsInts l xs) {i : Nat} (hi : i < xs.length) (K : Int → Option R) : (ixa 1 (.rv l) i fun p => ldi .i64 h p K) = K xs[i] := by
  cases k
  · simp at hi
  · have : ((i : Int) < xs.length) := by omega
    simp [ixa, ldi, ldv, cellAt, asInt0, ints, hi]
theorem wri_small {n : Int} (h0 : -9223372036854775808 ≤ n) (h1 : n ≤ 9223372036854775807) : wri .i64 n = n := by
  simp [wri, IntKind.wrap, IntKind.bits, IntKind.signed]
  omega
theorem wri_succ {i : Nat} (h : i < 9223372036854775807) : wri .i64 ((i : Int) + 1) = ((i + 1 : Nat) : Int) := by
  rw [wri_small] <;> omega
end
/-! ### The heap -/
section
variable {R : Type} {h : Hp}
theorem box_agg {cs : List RV} (K : AV → Hp → Option R) : nwc 1 (vcells (.rv (.agg cs))) h K = K (.ptr h.length 0 0) (h ++ [⟨0, 1, cs.map .rv⟩]) := by
  simp only [nwc, vcells]
theorem pad_ptr {o v off n : Nat} (K : AV → Option R) : pad (.ptr o v off) n K = K (.ptr o v (off + n)) := by
  simp only [pad]
theorem ldv_at {o v e off : Nat} {cs : List AV} {x : AV} (ho : h[o]? = some ⟨v, e, cs⟩) (hx : cs[off]? = some x) (K : AV → Option R) : ldv h (.ptr o v off) K = K x := by
  simp [ldv, cellAt, ho, hx]
theorem cellsN_at {o v e : Nat} {cs : List AV} (ho : h[o]? = some ⟨v, e, cs⟩) : ∀ (n j : Nat), j + n ≤ cs.length → cellsN h (.ptr o v 0) j n = some ((cs.drop j).take n)
  | 0, j, _ => by simp [cellsN]
  | n + 1, j, hj => by
    have hlt : j < cs.length := by omega
    rw [List.drop_eq_getElem_cons hlt, List.take_succ_cons]
    simp only [cellsN, cellAt, ho, Nat.zero_add, if_true, List.getElem?_eq_getElem hlt, cellsN_at ho n (j + 1) (by omega)]
theorem ldg_at {o v e n : Nat} {cs : List AV} (ho : h[o]? = some ⟨v, e, cs⟩) (hn : cs.length = n) (K : AV → Option R) : ldg n h (.ptr o v 0) K = K (.agg cs) := by
  subst hn
  simp [ldg, cellsN_at ho cs.length 0 (by omega)]
theorem ldi_at {o v e off : Nat} {k : IntKind} {cs : List AV} {n : Int} (ho : h[o]? = some ⟨v, e, cs⟩) (hx : cs[off]? = some (.rv (.int k n))) (K : Int → Option R) : ldi k h (.ptr o v off) K = K n := by
  simp [ldi, ldv, cellAt, ho, hx, asInt0]
theorem asBool_b {b : Bool} (K : Bool → Option R) : asBool (.rv (.bool b)) K = K b := by
  simp only [asBool]
theorem asInt_i {k : IntKind} {n : Int} (K : Int → Option R) : asInt k (.rv (.int k n)) K = K n := by
  simp [asInt]
theorem ldg6 {a b c d e f : RV} {rest : List RV} (K : AV → Option R) : ldg 6 h (.rv (.rop (a :: b :: c :: d :: e :: f :: rest))) K = K (.agg [.rv a, .rv b, .rv c, .rv d, .rv e, .rv f]) := rfl
theorem ldg5 {a b c d e : RV} {rest : List RV} (K : AV → Option R) : ldg 5 h (.rv (.rop (a :: b :: c :: d :: e :: rest))) K = K (.agg [.rv a, .rv b, .rv c, .rv d, .rv e]) := rfl
theorem pad_rop {cs : List RV} {n : Nat} (K : AV → Option R) : pad (.rv (.rop cs)) n K = K (.rv (.rop (cs.drop n))) := by
  simp only [pad]
theorem pad_rop4 {a b c d e : RV} {rest : List RV} (K : AV → Option R) : pad (.rv (.rop (a :: b :: c :: d :: e :: rest))) 4 K = K (.rv (.rop (e :: rest))) := by
  simp only [pad, List.drop]
theorem pad_rop3 {a b c d : RV} {rest : List RV} (K : AV → Option R) : pad (.rv (.rop (a :: b :: c :: d :: rest))) 3 K = K (.rv (.rop (d :: rest))) := by
  simp only [pad, List.drop]
theorem ldv_rop {a : RV} {rest : List RV} (K : AV → Option R) : ldv h (.rv (.rop (a :: rest))) K = K (.rv a) := by
  simp [ldv, cellAt]
theorem callP_ret {F : List RV → Option Res} {args : List AV} {rs : List RV} {r : RV} (ha : args.mapM (toRV h depthA) = some rs) (hF : F rs = some (.ret r)) (hf : args.all isRV = true ∨ flatR r = true) (K Kp : AV → Option R) :
    callP F h args K Kp = K (.rv r) := by
  simp only [callP, ha, hF, hf, if_true]
theorem setAt_get (cs : List AV) : ∀ (l : List AV) (off i : Nat), (setAt l off cs)[i]? = if off ≤ i ∧ i < off + cs.length ∧ i < l.length then cs[i - off]? else l[i]? := by
  induction cs with
  | nil => intro l off i; simp [setAt]; intro a b; omega
  | cons c cs ih =>
    intro l off i
    rw [setAt, ih]
    simp only [List.length_set, List.length_cons, List.getElem?_set]
    by_cases h1 : off = i
    · subst h1
      by_cases h2 : off < l.length
      · simp [h2]
        intro a
        omega
      · simp [h2]
    · by_cases h2 : off ≤ i ∧ i < off + (cs.length + 1) ∧ i < l.length
      · have h3 : off + 1 ≤ i ∧ i < off + 1 + cs.length ∧ i < l.length := by omega
        rw [if_pos h3, if_pos h2]
        obtain ⟨j, rfl⟩ : ∃ j, i = off + 1 + j := ⟨i - off - 1, by omega⟩
        rw [show off + 1 + j - off = j + 1 by omega, show off + 1 + j - (off + 1) = j by omega]
        simp
      · have h3 : ¬ (off + 1 ≤ i ∧ i < off + 1 + cs.length ∧ i < l.length) := by omega
        rw [if_neg h3, if_neg h2, if_neg h1]
theorem setAt_whole {l cs : List AV} (e : l.length = cs.length) : setAt l 0 cs = cs := by
  apply List.ext_getElem?
  intro i
  rw [setAt_get]
  by_cases hi : i < l.length
  · rw [if_pos (by omega)]; simp
  · rw [if_neg (by omega), List.getElem?_eq_none (by omega), List.getElem?_eq_none (by omega)]
theorem setAt_one {l : List AV} {off : Nat} {x : AV} : setAt l off [x] = l.set off x := by
  simp [setAt]
theorem nwc_some {l : List AV} (K : AV → Hp → Option R) : nwc 1 (some l) h K = K (.ptr h.length 0 0) (h ++ [⟨0, 1, l⟩]) := by
  simp only [nwc]
theorem stv_whole {o v e n : Nat} {cs vals : List AV} (ho : h[o]? = some ⟨v, e, cs⟩) (hn : cs.length = n) (hv : vals.length = n) (h1 : vals.all oneA = true) (K : Hp → Option R) : stv n h (.ptr o v 0) (.agg vals) K = K (h.set o ⟨v, e, vals⟩) := by
  have hs : setAt cs 0 vals = vals := setAt_whole (by omega)
  simp [stv, vcells, ho, hn, hv, h1, hs]
theorem fin_agg {o v e n : Nat} {cs : List AV} (ho : h[o]? = some ⟨v, e, cs⟩) (hn : cs.length = n) : finR ((cellsN h (.ptr o v 0) 0 n).map .agg) h = some (.ret (.agg cs), h) := by
  subst hn
  simp [cellsN_at ho cs.length 0 (by omega), finR]
/-- A variable that is laid and given its value. -/
theorem var_agg {z vals : List AV} {n : Nat} (hn : vals.length = n) (hz : z.length = n) (h1 : vals.all oneA = true) (K : AV → Hp → Option R) :
    (nwc 1 (some z) h fun p h2 => stv n h2 p (.agg vals) fun h3 => K p h3) = K (.ptr h.length 0 0) (h ++ [⟨0, 1, vals⟩]) := by
  have hs : setAt z 0 vals = vals := setAt_whole (by omega)
  simp [nwc, stv, vcells, hn, hz, h1, hs]
theorem get_old {o : Nat} {ob : Ob} (ho : h[o]? = some ob) (l : Hp) : (h ++ l)[o]? = some ob := by
  rw [List.getElem?_append_left (List.getElem?_eq_some_iff.1 ho).1]
  exact ho
theorem get_new (ob : Ob) : (h ++ [ob])[h.length]? = some ob := by simp
end
/-! ### Rows of some cells each -/
inductive Rows {α : Type} (n : Nat) (Q : List RV → α → Prop) : List RV → List α → Prop
  | nil : Rows n Q [] []
  | cons {c cs : List RV} {a : α} {as' : List α} (hc : c.length = n) (q : Q c a) (r : Rows n Q cs as') : Rows n Q (c ++ cs) (a :: as')
theorem Rows.at {α : Type} {n : Nat} {Q : List RV → α → Prop} {cs : List RV} {l : List α} (r : Rows n Q cs l) : ∀ {i : Nat} (hi : i < l.length), ∃ c rest, cs.drop (i * n) = c ++ rest ∧ c.length = n ∧ Q c l[i] := by
  induction r with
  | nil => intro i hi; simp at hi
  | @cons c cs a l hc q r ih =>
    intro i hi
    cases i with
    | zero => exact ⟨c, cs, by simp, hc, q⟩
    | succ i =>
      obtain ⟨c', rest, h1, h2, h3⟩ := ih (i := i) (by simpa using hi)
      refine ⟨c', rest, ?_, h2, by simpa using h3⟩
      rw [← h1, Nat.succ_mul, Nat.add_comm, ← List.drop_drop]
      congr 1
      rw [← hc]
      simp
theorem Rows.length {α : Type} {n : Nat} {Q : List RV → α → Prop} {cs : List RV} {l : List α} (r : Rows n Q cs l) : cs.length = l.length * n := by
  induction r with
  | nil => simp
  | cons hc q r ih => simp [hc, ih, Nat.succ_mul]; omega
inductive IsRows {α : Type} (n : Nat) (Q : List RV → α → Prop) : RV → List α → Prop
  | nil : IsRows n Q .nils []
  | mk {cs : List RV} {l : List α} (r : Rows n Q cs l) (h : l.length < 1000000000) : IsRows n Q (.ros cs l.length) l
section
variable {R : Type} {h : Hp} {α : Type} {n : Nat} {Q : List RV → α → Prop} {l : RV} {xs : List α}
theorem IsRows.len (k : IsRows n Q l xs) (K : Int → Option R) : lna (.rv l) K = K xs.length := by
  cases k <;> rfl
theorem IsRows.short (k : IsRows n Q l xs) : xs.length < 1000000000 := by
  cases k
  · simp
  · assumption
theorem IsRows.cells (k : IsRows n Q l xs) : vcells (.rv l) = some [.rv l] := by
  cases k <;> rfl
theorem IsRows.one (k : IsRows n Q l xs) : oneA (.rv l) = true := by
  cases k <;> rfl
theorem IsRows.at (k : IsRows n Q l xs) {i : Nat} (hi : i < xs.length) : ∃ c rest, c.length = n ∧ Q c xs[i] ∧ ∀ (K : AV → Option R), ixa n (.rv l) i K = K (.rv (.rop (c ++ rest))) := by
  cases k with
  | nil => simp at hi
  | mk r hl =>
    obtain ⟨c, rest, h1, h2, h3⟩ := r.at hi
    refine ⟨c, rest, h2, h3, fun K => ?_⟩
    have : ((i : Int) < xs.length) := by omega
    simp [ixa, hi, h1]
end
/-! ### Lists that grow, and are written -/
section
variable {R : Type} {h : Hp}
theorem get_set_ne {o o2 : Nat} {ob ob2 : Ob} (hn : o ≠ o2) (ho : h[o2]? = some ob2) : (h.set o ob)[o2]? = some ob2 := by
  rw [List.getElem?_set_ne hn]; exact ho
theorem get_set_eq {o : Nat} {ob ob2 : Ob} (ho : h[o]? = some ob2) : (h.set o ob)[o]? = some ob := by
  rw [List.getElem?_set_self (List.getElem?_eq_some_iff.1 ho).1]
theorem get_lt {o : Nat} {ob : Ob} (ho : h[o]? = some ob) : o < h.length := (List.getElem?_eq_some_iff.1 ho).1
theorem sl_at {o v len i : Nat} (hi : i < len) (K : AV → Option R) : ixa 1 (.sl o v 0 len) i K = K (.ptr o v i) := by
  have : (i : Int) < len := by omega
  simp [ixa, hi]
theorem mks_one {z : AV} {b : Nat} {n : Nat} (hn : n < 17592186044415) (hb : b ≤ 8) (K : AV → Hp → Option R) : mks 1 b [z] h n K = K (.sl h.length 0 0 n) (h ++ [⟨0, 1, zrep [z] n⟩]) := by
  have h1 : (n : Int) ≤ room := by simp [room]; omega
  have h2 : (b : Int) * (n : Int) ≤ room := by
    have : (b : Int) * (n : Int) ≤ 8 * n := Int.mul_le_mul_of_nonneg_right (by omega) (by omega)
    simp [room]; omega
  simp [mks, h1, h2]
theorem sl_len {o v off len : Nat} (K : Int → Option R) : lna (.sl o v off len) K = K len := by
  simp only [lna]
theorem stv_at {o v e i : Nat} {cs : List AV} {x : AV} (ho : h[o]? = some ⟨v, e, cs⟩) (hi : i < cs.length) (hx : oneA x = true) (hc : vcells x = some [x]) (K : Hp → Option R) : stv 1 h (.ptr o v i) x K = K (h.set o ⟨v, e, cs.set i x⟩) := by
  have : i + 1 ≤ cs.length := hi
  simp [stv, hc, ho, this, hx, setAt]
theorem bsl_one {z x : AV} (hc : vcells x = some [x]) (K : AV → Hp → Option R) : bsl 1 1 [z] [(some (0, 1), x)] h K = K (.sl h.length 0 0 1) (h ++ [⟨0, 1, [x]⟩]) := by
  simp [bsl, fillA, hc, zrep, setAt]
theorem apn_one {o v len : Nat} {cs : List AV} {x : AV} (ho : h[o]? = some ⟨v, 1, cs⟩) (hl : cs.length = len) (hr : len < 17592186044415) (hx : oneA x = true) (K : AV → Hp → Option R) :
    apn 1 8 (h ++ [⟨0, 1, [x]⟩]) (.sl o v 0 len) (.sl h.length 0 0 1) K = K (.sl o (v + 1) 0 (len + 1)) ((h ++ [(⟨0, 1, [x]⟩ : Ob)]).set o ⟨v + 1, 1, cs ++ [x]⟩) := by
  have h1 := get_old ho [⟨0, 1, [x]⟩]
  have h2 : ((len + 1 : Nat) : Int) ≤ room := by simp [room]; omega
  have h3 : (8 : Int) * ((len + 1 : Nat) : Int) ≤ room := by simp [room]; omega
  have h4 : cs.take len = cs := List.take_of_length_le (by omega)
  have h5 : len ≤ cs.length := by omega
  simp only [apn, wcells, get_new, h1]
  simp only [List.length_cons, List.length_nil, Nat.mul_one, List.drop_zero, List.take, Nat.zero_add, Nat.le_refl, and_self, if_true, h5, true_and]
  rw [if_pos ⟨h2, h3, by simp [hx]⟩, h4]
theorem apn_nil {x : AV} (hx : oneA x = true) (K : AV → Hp → Option R) :
    apn 1 8 (h ++ [⟨0, 1, [x]⟩]) (.rv .nils) (.sl h.length 0 0 1) K = K (.sl (h.length + 1) 0 0 1) ((h ++ [⟨0, 1, [x]⟩]) ++ [⟨0, 1, [x]⟩]) := by
  simp [apn, wcells, room, hx]
end
theorem Rows.push {α : Type} {n : Nat} {Q : List RV → α → Prop} {cs c : List RV} {l : List α} {a : α} (r : Rows n Q cs l) (hc : c.length = n) (q : Q c a) : Rows n Q (cs ++ c) (l ++ [a]) := by
  induction r with
  | nil => simpa using Rows.cons hc q .nil
  | cons hc' q' r ih => simpa [List.append_assoc] using Rows.cons hc' q' ih
/-- A list of rows that a function of ours makes. -/
inductive RowsAt {α : Type} (n : Nat) (Q : List RV → α → Prop) (h : Hp) : AV → List α → Prop
  | nil : RowsAt n Q h (.rv .nils) []
  | mk {o v : Nat} {cs : List RV} {l : List α} (ho : h[o]? = some ⟨v, n, cs.map .rv⟩) (r : Rows n Q cs l) : RowsAt n Q h (.sl o v 0 l.length) l
theorem mapM_rvs {h : Hp} (n : Nat) (cs : List RV) : (cs.map AV.rv).mapM (toRV h (n + 1)) = some cs := by
  induction cs with
  | nil => rfl
  | cons b bs ih => simp only [List.map_cons, List.mapM_cons, toRV, ih]; rfl
theorem RowsAt.done {α : Type} {n : Nat} {Q : List RV → α → Prop} {h : Hp} {v : AV} {l : List α} (k : RowsAt n Q h v l) (hl : l.length < 1000000000) : ∃ x, toRV h depthA v = some x ∧ IsRows n Q x l := by
  cases k with
  | nil => exact ⟨.nils, rfl, .nil⟩
  | @mk o v cs l ho r =>
    refine ⟨.ros cs l.length, ?_, .mk r hl⟩
    have h1 : ((cs.map AV.rv).drop 0).take (l.length * n) = cs.map AV.rv := by
      rw [List.drop_zero, List.take_of_length_le (by simp [r.length])]
    simp only [depthA, toRV, ho]
    rw [if_pos (by simp [r.length]), h1, mapM_rvs]
    rfl
theorem setAt_rvs {z : List AV} {vals : List AV} (e : z.length = vals.length) : fillA (zrep z 1) [(some (0, vals.length), .agg vals)] = some vals := by
  have h1 : zrep z 1 = z := by simp [zrep]
  simp [fillA, vcells, h1, e, setAt_whole e]
theorem RowsAt.push {R : Type} {α : Type} {n b : Nat} {Q : List RV → α → Prop} {h : Hp} {v : AV} {l : List α} (k : RowsAt n Q h v l) (hl : l.length < 1000000000) (hn : 0 < n) (hb : b ≤ 1000) {z : List AV} {c : List RV} {a : α} (hz : z.length = n) (hc : c.length = n)
    (q : Q c a) (h1 : (c.map AV.rv).all oneA = true) : ∃ w h3, (∀ K : AV → Hp → Option R, (bsl n 1 z [(some (0, n), .rv (.agg c))] h fun u h2 => apn n b h2 v u fun w h3 => K w h3) = K w h3) ∧ RowsAt n Q h3 w (l ++ [a]) := by
  have e1 : ∀ K : AV → Hp → Option R, bsl n 1 z [(some (0, n), .rv (.agg c))] h K = K (.sl h.length 0 0 1) (h ++ [⟨0, n, c.map .rv⟩]) := by
    intro K
    have h2 : zrep z 1 = z := by simp [zrep]
    simp [bsl, fillA, vcells, h2, hc, hz, setAt_whole (show z.length = (c.map AV.rv).length by simp [hc, hz])]
  have hw : wcells n (h ++ [⟨0, n, c.map .rv⟩]) (.sl h.length 0 0 1) = some (1, c.map .rv) := by
    simp only [wcells, get_new]
    rw [if_pos (by simp [hc])]
    simp only [List.drop_zero]
    rw [List.take_of_length_le (by simp [hc])]
  cases k with
  | nil =>
    refine ⟨.sl (h.length + 1) 0 0 1, (h ++ [⟨0, n, c.map .rv⟩]) ++ [⟨0, n, c.map .rv⟩], fun K => ?_, ?_⟩
    · rw [e1]
      simp only [apn, hw]
      rw [if_neg (by omega), if_pos ⟨by simp [room], by simp [room]; omega, h1⟩]
      simp
    · have := RowsAt.mk (n := n) (Q := Q) (h := (h ++ [⟨0, n, c.map .rv⟩]) ++ [⟨0, n, c.map .rv⟩]) (o := h.length + 1) (v := 0) (cs := c) (l := [a]) (by simp) (by simpa using Rows.cons hc q .nil)
      exact this
  | @mk o v cs l ho r =>
    have h2 := get_old ho [⟨0, n, c.map .rv⟩]
    refine ⟨.sl o (v + 1) 0 (l.length + 1), (h ++ [(⟨0, n, c.map .rv⟩ : Ob)]).set o ⟨v + 1, n, (cs ++ c).map .rv⟩, fun K => ?_, ?_⟩
    · rw [e1]
      simp only [apn, hw, h2]
      have h4 : ((l.length + 1 : Nat) : Int) ≤ room := by simp [room]; omega
      have h5 : (b : Int) * ((l.length + 1 : Nat) : Int) ≤ room := by
        have : (b : Int) * ((l.length + 1 : Nat) : Int) ≤ 1000 * ((l.length + 1 : Nat) : Int) := Int.mul_le_mul_of_nonneg_right (by omega) (by omega)
        have hr : room = 140737488355328 := rfl
        rw [hr]
        omega
      rw [if_pos ⟨trivial, trivial, trivial, by simp [r.length], h4, h5, h1⟩, List.take_of_length_le (by simp [r.length]), List.map_append]
    · have := RowsAt.mk (n := n) (Q := Q) (h := (h ++ [(⟨0, n, c.map .rv⟩ : Ob)]).set o ⟨v + 1, n, (cs ++ c).map .rv⟩) (get_set_eq h2) (r.push hc q)
      rw [List.length_append] at this
      exact this
/-! ### What the program speaks of -/
structure Blk where
  kind : Int
  n : Int
  args : List Int
  preds : List Int
  succs : List Int
  list : List Int
structure Vl where
  op : Int
  kind : Int
  args : List Int
  n : Int
  m : Int
structure Cd where
  params : List Int
  results : List Int
  values : List Vl
  blocks : List Blk
structure Lp where
  head : Int
  outer : Int
  depth : Int
  body : List Int
def IsBlk (c : List RV) (b : Blk) : Prop := ∃ a p s t, c = [I b.kind, I b.n, a, p, s, t] ∧ IsInts a b.args ∧ IsInts p b.preds ∧ IsInts s b.succs ∧ IsInts t b.list
def IsVl (c : List RV) (v : Vl) : Prop := ∃ a, c = [I v.op, I v.kind, a, I v.n, I v.m] ∧ IsInts a v.args
def IsCd (c : List RV) (d : Cd) : Prop := ∃ p r v b, c = [p, r, v, b] ∧ IsInts p d.params ∧ IsInts r d.results ∧ IsRows 5 IsVl v d.values ∧ IsRows 6 IsBlk b d.blocks
theorem blk_at {R : Type} {l : RV} {bs : List Blk} (k : IsRows 6 IsBlk l bs) {i : Nat} (hi : i < bs.length) : ∃ a p s t rest, IsInts a bs[i].args ∧ IsInts p bs[i].preds ∧ IsInts s bs[i].succs ∧ IsInts t bs[i].list ∧
    ∀ (K : AV → Option R), ixa 6 (.rv l) i K = K (.rv (.rop (I bs[i].kind :: I bs[i].n :: a :: p :: s :: t :: rest))) := by
  obtain ⟨c, rest, _, ⟨a, p, s, t, rfl, h1, h2, h3, h4⟩, hx⟩ := k.at hi
  exact ⟨a, p, s, t, rest, h1, h2, h3, h4, hx⟩
theorem vl_at {R : Type} {l : RV} {vs : List Vl} (k : IsRows 5 IsVl l vs) {i : Nat} (hi : i < vs.length) : ∃ a rest, IsInts a vs[i].args ∧
    ∀ (K : AV → Option R), ixa 5 (.rv l) i K = K (.rv (.rop (I vs[i].op :: I vs[i].kind :: a :: I vs[i].n :: I vs[i].m :: rest))) := by
  obtain ⟨c, rest, _, ⟨a, rfl, h1⟩, hx⟩ := k.at hi
  exact ⟨a, rest, h1, hx⟩
def IsLp (c : List RV) (l : Lp) : Prop := ∃ b, c = [I l.head, I l.outer, I l.depth, b] ∧ IsInts b l.body
end Go.Proofs.Ytknphnmhjmejaaa
/-  What the flow's small functions tell. No conditions. -/
namespace Go.Proofs.Ytknphnmhjmejaaa
set_option linter.unusedVariables false
theorem Count_loop {l : RV} {xs : List Int} (hl : IsInts l xs) (n : Int) (k M : Nat) (h : Hp) : ∀ (m i c N : Nat), i + m = xs.length → m < N → c ≤ i →
    r13_Count_l116 k N M (.rv l) n c i h = some (.ret (ai ((c + (xs.drop i).count n : Nat))), h) := by
  intro m
  induction m with
  | zero =>
    intro i c N hi hN hc
    obtain ⟨N, rfl⟩ : ∃ N', N = N' + 1 := ⟨N - 1, by omega⟩
    rw [r13_Count_l116_eq, hl.len, bsp_not (decide_eq_false (by omega)), r13_Count_p15_eq, List.drop_eq_nil_of_le (by omega)]
    simp
  | succ m ih =>
    intro i c N hi hN hc
    obtain ⟨N, rfl⟩ : ∃ N', N = N' + 1 := ⟨N - 1, by omega⟩
    have hlt : i < xs.length := by omega
    have hs := hl.short
    rw [r13_Count_l116_eq, hl.len, bsp_of (decide_eq_true (by omega)), hl.at hlt, r13_Count_p467_eq, r13_Count_p467_eq, wri_succ (by omega), wri_succ (by omega), ih (i + 1) c N (by omega) (by omega) (by omega), ih (i + 1) (c + 1) N (by omega) (by omega) (by omega)]
    rw [List.drop_eq_getElem_cons hlt, List.count_cons]
    by_cases e : xs[i] = n
    · rw [bsp_of (by simpa using e)]
      simp [e]; omega
    · rw [bsp_not (by simpa using e)]
      simp [e]
theorem Count_spec {l : RV} {xs : List Int} (hl : IsInts l xs) (n : Int) : F_r13_Count [l, I n] = some (.ret (I (xs.count n : Nat))) := by
  have := Count_loop hl n big 0 [] xs.length 0 0 big (by omega) (by have := hl.short; rw [big_val]; omega) (by omega)
  simp only [F_r13_Count, List.map, r13_Count_eq, List.length_nil]
  rw [show ((0 : Int)) = ((0 : Nat) : Int) from rfl, this]
  simp [pureR, toRV, depthA]
theorem Hole_spec {c : List RV} {b : Blk} (hb : IsBlk c b) : F_r13_Hole [.agg c] = some (.ret (.bool (b.kind == 0))) := by
  obtain ⟨a, p, s, t, rfl, _⟩ := hb
  simp only [F_r13_Hole, List.map, r13_Hole_eq]
  rfl
def succsOf (k : Int) : Int := if k = 1 then 1 else if k = 2 then 2 else if k = 3 ∨ k = 4 then 0 else -1
theorem succs_spec (k : Int) : F_r13_succs [I k] = some (.ret (I (succsOf k))) := by
  simp only [F_r13_succs, List.map, r13_succs_eq, r13_succs_p863_eq]
  by_cases h1 : k = 1
  · subst h1; rfl
  by_cases h2 : k = 2
  · subst h2; rfl
  by_cases h3 : k = 3
  · subst h3; rfl
  by_cases h4 : k = 4
  · subst h4; rfl
  rw [bsp_not (by simpa using h1), bsp_not (by simpa using h2), bsp_not (by simpa using h3), bsp_not (by simpa using h4)]
  simp [pureR, toRV, depthA, succsOf, h1, h2, h3, h4]
/-- A list of blocks that are no holes. -/
def okNums (bs : List Blk) (l : List Int) : Bool := l.all fun n => decide (0 ≤ n) && match bs[n.toNat]? with | some b => b.kind != 0 | none => false
theorem numbers_loop {l v : RV} {xs : List Int} {bs : List Blk} (hl : IsInts l xs) (hv : IsRows 6 IsBlk v bs) {o e : Nat} {cs : List AV} {h : Hp} (ho : h[o]? = some ⟨0, e, cs⟩) (hc : cs[3]? = some (.rv v)) (k M : Nat) : ∀ (m i N : Nat), i + m = xs.length → m < N →
    r13_numbers_l52 k N M (.rv l) (.ptr o 0 0) i h = some (.ret (ab (okNums bs (xs.drop i))), h) := by
  intro m
  induction m with
  | zero =>
    intro i N hi hN
    obtain ⟨N, rfl⟩ : ∃ N', N = N' + 1 := ⟨N - 1, by omega⟩
    rw [r13_numbers_l52_eq, hl.len, bsp_not (decide_eq_false (by omega)), r13_numbers_p7_eq, List.drop_eq_nil_of_le (by omega)]
    rfl
  | succ m ih =>
    intro i N hi hN
    obtain ⟨N, rfl⟩ : ∃ N', N = N' + 1 := ⟨N - 1, by omega⟩
    have hlt : i < xs.length := by omega
    have hs := hl.short
    have ih' := ih (i + 1) N (by omega) (by omega)
    rw [r13_numbers_l52_eq, hl.len, bsp_of (decide_eq_true (by omega)), hl.at hlt, List.drop_eq_getElem_cons hlt]
    simp only [r13_numbers_p841_eq, wri_succ (show i < 9223372036854775807 by omega), ih', okNums, List.all_cons]
    by_cases h0 : xs[i] < 0
    · rw [bsp_of (decide_eq_true h0)]
      have : ¬ (0 ≤ xs[i]) := by omega
      simp [this, bsp]
    · obtain ⟨n, hn⟩ : ∃ n : Nat, xs[i] = n := ⟨xs[i].toNat, by omega⟩
      rw [bsp_not (decide_eq_false h0), hl.at hlt]
      simp only [pad, Nat.zero_add, ldv_at ho hc, hv.len, hn]
      by_cases h1 : n < bs.length
      · rw [bsp_not (decide_eq_false (by omega)), hl.at hlt, hn]
        obtain ⟨a, p, s, t, rest, k1, k2, k3, k4, hx⟩ := blk_at hv h1
        rw [hx, ldg6, callP_ret (by simp [toRV, depthA]) (Hole_spec ⟨a, p, s, t, rfl, k1, k2, k3, k4⟩) (.inr rfl)]
        simp only [asBool, Int.toNat_natCast, List.getElem?_eq_getElem h1]
        by_cases h2 : bs[n].kind = 0
        · rw [bsp_of (by simpa using h2)]
          simp [h2]
        · rw [bsp_not (by simpa using h2)]
          simp [h2]
      · rw [bsp_of (decide_eq_true (by omega))]
        simp [h1, bsp]
theorem numbers_spec {l : RV} {cs : List RV} {xs : List Int} {d : Cd} (hl : IsInts l xs) (hd : IsCd cs d) : F_r13_numbers [.agg cs, l] = some (.ret (.bool (okNums d.blocks xs))) := by
  obtain ⟨p, r, v, b, rfl, _, _, _, hb⟩ := hd
  have hs := hl.short
  have hk : xs.length < big := by rw [big_val]; omega
  have this := fun M => numbers_loop hl hb (o := 0) (h := [⟨0, 1, [.rv p, .rv r, .rv v, .rv b]⟩]) rfl rfl big M xs.length 0 big (by omega) (by omega)
  unfold F_r13_numbers
  rw [List.map_cons, List.map_cons, List.map_nil, r13_numbers_eq, box_agg, List.nil_append, List.length_nil, show ((0 : Int)) = ((0 : Nat) : Int) from rfl]
  rw [show List.map AV.rv [p, r, v, b] = [.rv p, .rv r, .rv v, .rv b] from rfl, this]
  simp [pureR, toRV, depthA]
def blkOk (bs : List Blk) (b : Blk) : Bool :=
  if b.kind = 0 then b.preds.isEmpty && b.succs.isEmpty else decide (0 ≤ succsOf b.kind) && okNums bs b.preds && okNums bs b.succs
theorem isEmpty_pos (xs : List Int) : (decide ((xs.length : Int) > 0)) = !xs.isEmpty := by
  cases xs <;> simp
theorem form_loop {p r v b : RV} {d : Cd} (hd : IsCd [p, r, v, b] d) {o : Nat} (k M : Nat) : ∀ (m i N : Nat) (h : Hp), h[o]? = some ⟨0, 1, [.rv p, .rv r, .rv v, .rv b]⟩ → i + m = d.blocks.length → m < N →
    ∃ h', r13_form_l116 k N M (.ptr o 0 0) i h = some (.ret (ab ((d.blocks.drop i).all (blkOk d.blocks))), h') := by
  have hd' := hd
  obtain ⟨p, r, v, b, e, _, _, _, hb⟩ := hd
  cases e
  intro m
  induction m with
  | zero =>
    intro i N h ho hi hN
    obtain ⟨N, rfl⟩ : ∃ N', N = N' + 1 := ⟨N - 1, by omega⟩
    rw [r13_form_l116_eq, pad_ptr, ldv_at ho rfl, hb.len, bsp_not (decide_eq_false (by omega)), r13_form_p15_eq, List.drop_eq_nil_of_le (by omega)]
    exact ⟨_, rfl⟩
  | succ m ih =>
    intro i N h ho hi hN
    obtain ⟨N, rfl⟩ : ∃ N', N = N' + 1 := ⟨N - 1, by omega⟩
    have hlt : i < d.blocks.length := by omega
    have hs := hb.short
    obtain ⟨a, q, s, t, rest, k1, k2, k3, k4, hx⟩ := blk_at (R := ARes × Hp) hb hlt
    have hbk : IsBlk [I d.blocks[i].kind, I d.blocks[i].n, a, q, s, t] d.blocks[i] := ⟨a, q, s, t, rfl, k1, k2, k3, k4⟩
    rw [r13_form_l116_eq, pad_ptr, ldv_at ho rfl, hb.len, bsp_of (decide_eq_true (by omega)), pad_ptr, ldv_at ho rfl, hx, ldg6, var_agg (n := 6) (by rfl) (by rfl) (by simp [k1.one, k2.one, k3.one, k4.one]; exact ⟨rfl, rfl⟩), List.drop_eq_getElem_cons hlt, List.all_cons]
    have ho2 := get_old ho [⟨0, 1, [.rv (I d.blocks[i].kind), .rv (I d.blocks[i].n), .rv a, .rv q, .rv s, .rv t]⟩]
    have hp := get_new (h := h) ⟨0, 1, [.rv (I d.blocks[i].kind), .rv (I d.blocks[i].n), .rv a, .rv q, .rv s, .rv t]⟩
    generalize h ++ [⟨0, 1, [.rv (I d.blocks[i].kind), .rv (I d.blocks[i].n), .rv a, .rv q, .rv s, .rv t]⟩] = h2 at ho2 hp ⊢
    obtain ⟨h', ih'⟩ := ih (i + 1) N h2 ho2 (by omega) (by omega)
    have next : ∀ x : Bool, (x = false → blkOk d.blocks d.blocks[i] = true) → (x = true → blkOk d.blocks d.blocks[i] = false) →
        ∃ h', bsp x (some (.ret (.rv (.bool false)), h2)) (r13_form_p467 k N M (.ptr o 0 0) i h2) = some (.ret (ab (blkOk d.blocks d.blocks[i] && (d.blocks.drop (i + 1)).all (blkOk d.blocks))), h') := by
      intro x h0 h1
      cases x with
      | false => rw [bsp_not rfl, r13_form_p467_eq, wri_succ (by omega), ih', h0 rfl]; exact ⟨h', by simp⟩
      | true => rw [bsp_of rfl, h1 rfl]; exact ⟨h2, by simp⟩
    rw [ldg_at hp (by rfl), callP_ret (by simp [toRV, depthA]) (Hole_spec hbk) (.inr rfl), asBool_b]
    by_cases h0 : d.blocks[i].kind = 0
    · rw [bsp_of (by simpa using h0), pad_ptr, ldv_at hp rfl, k2.len, pad_ptr, ldv_at hp rfl, k3.len, isEmpty_pos, isEmpty_pos]
      cases e1 : d.blocks[i].preds.isEmpty with
      | false => rw [bsp_of (by simp), r13_form_p59689_eq]; exact next true (by simp) (fun _ => by unfold blkOk; rw [if_pos h0, e1]; rfl)
      | true => rw [bsp_not (by simp), r13_form_p59689_eq]; exact next _ (fun e => by unfold blkOk; rw [if_pos h0, e1]; simpa using e) (fun e => by unfold blkOk; rw [if_pos h0, e1]; simpa using e)
    · rw [bsp_not (by simpa using h0), pad_ptr, ldi_at hp rfl, callP_ret (by simp [toRV, depthA]) (succs_spec d.blocks[i].kind) (.inr rfl), asInt_i]
      by_cases h1 : succsOf d.blocks[i].kind < 0
      · rw [bsp_of (decide_eq_true h1), r13_form_p7463_eq]
        exact next true (by simp) (fun _ => by simp [blkOk, h0]; intro; omega)
      · rw [bsp_not (decide_eq_false h1), ldg_at ho2 (by rfl), pad_ptr, ldv_at hp rfl, callP_ret (by simp [toRV, depthA]) (numbers_spec k2 hd') (.inr rfl), asBool_b]
        cases e1 : okNums d.blocks d.blocks[i].preds with
        | false => rw [bsp_of (by simp), r13_form_p7463_eq]; exact next true (by simp) (fun _ => by simp [blkOk, h0, e1])
        | true =>
          rw [bsp_not (by simp), ldg_at ho2 (by rfl), pad_ptr, ldv_at hp rfl, callP_ret (by simp [toRV, depthA]) (numbers_spec k3 hd') (.inr rfl), asBool_b, r13_form_p7463_eq]
          exact next _ (fun e => by simp only [Bool.not_eq_false'] at e; simp [blkOk, h0, e1, e]; omega) (fun e => by simp only [Bool.not_eq_true'] at e; simp [blkOk, h0, e1, e])
def formOk (bs : List Blk) : Bool := decide (0 < bs.length ∧ bs.length ≤ 4096) && bs.all (blkOk bs)
theorem form_spec {cs : List RV} {d : Cd} (hd : IsCd cs d) : F_r13_form [.agg cs] = some (.ret (.bool (formOk d.blocks))) := by
  have hd' := hd
  obtain ⟨p, r, v, b, rfl, _, _, _, hb⟩ := hd
  have hs := hb.short
  have ho : ([⟨0, 1, [.rv p, .rv r, .rv v, .rv b]⟩] : Hp)[0]? = some ⟨0, 1, [.rv p, .rv r, .rv v, .rv b]⟩ := rfl
  unfold F_r13_form
  rw [List.map_cons, List.map_nil, r13_form_eq, box_agg, List.nil_append, List.length_nil, show List.map AV.rv [p, r, v, b] = [.rv p, .rv r, .rv v, .rv b] from rfl,
    pad_ptr, ldv_at ho rfl, hb.len]
  by_cases h0 : d.blocks.length = 0
  · rw [bsp_of (by simp [h0]), r13_form_p13_eq, bsp_of rfl]
    simp [pureR, toRV, depthA, formOk, h0]
  · rw [bsp_not (by simp; intro e; simp [e] at h0), pad_ptr, ldv_at ho rfl, hb.len, r13_form_p13_eq]
    by_cases h1 : d.blocks.length > 4096
    · rw [bsp_of (decide_eq_true (by omega))]
      have : ¬ (d.blocks.length ≤ 4096) := by omega
      simp [pureR, toRV, depthA, formOk, this]
    · have ⟨h', e⟩ := form_loop hd' (o := 0) big ([⟨0, 1, [.rv p, .rv r, .rv v, .rv b]⟩] : Hp).length d.blocks.length 0 big [⟨0, 1, [.rv p, .rv r, .rv v, .rv b]⟩] rfl (by omega) (by rw [big_val]; omega)
      rw [bsp_not (decide_eq_false (by omega)), show ((0 : Int)) = ((0 : Nat) : Int) from rfl, e]
      have h2 : 0 < d.blocks.length ∧ d.blocks.length ≤ 4096 := by omega
      simp [pureR, toRV, depthA, formOk, h2]
theorem EqNumbers_loop {a b : RV} {xs ys : List Int} (ha : IsInts a xs) (hb : IsInts b ys) (hl : xs.length = ys.length) (k M : Nat) (h : Hp) : ∀ (m i N : Nat), i + m = xs.length → m < N →
    r0_EqNumbers_l116 k N M (.rv a) (.rv b) i h = some (.ret (ab (xs.drop i == ys.drop i)), h) := by
  intro m
  induction m with
  | zero =>
    intro i N hi hN
    obtain ⟨N, rfl⟩ : ∃ N', N = N' + 1 := ⟨N - 1, by omega⟩
    rw [r0_EqNumbers_l116_eq, ha.len, bsp_not (decide_eq_false (by omega)), r0_EqNumbers_p15_eq, List.drop_eq_nil_of_le (by omega), List.drop_eq_nil_of_le (by omega)]
    rfl
  | succ m ih =>
    intro i N hi hN
    obtain ⟨N, rfl⟩ : ∃ N', N = N' + 1 := ⟨N - 1, by omega⟩
    have hlt : i < xs.length := by omega
    have hlt' : i < ys.length := by omega
    have hs := ha.short
    rw [r0_EqNumbers_l116_eq, ha.len, bsp_of (decide_eq_true (by omega)), ha.at hlt, hb.at hlt', wri_succ (by omega), ih (i + 1) N (by omega) (by omega), List.drop_eq_getElem_cons hlt, List.drop_eq_getElem_cons hlt']
    rw [show (xs[i] :: xs.drop (i + 1) == ys[i] :: ys.drop (i + 1)) = (xs[i] == ys[i] && xs.drop (i + 1) == ys.drop (i + 1)) from rfl]
    by_cases e : xs[i] = ys[i]
    · rw [bsp_not (by simpa using e), show (xs[i] == ys[i]) = true by simpa using e]
      rfl
    · rw [bsp_of (by simpa using e), show (xs[i] == ys[i]) = false by simpa using e]
      rfl
theorem EqNumbers_spec {a b : RV} {xs ys : List Int} (ha : IsInts a xs) (hb : IsInts b ys) : F_r0_EqNumbers [a, b] = some (.ret (.bool (xs == ys))) := by
  have hs := ha.short
  unfold F_r0_EqNumbers
  rw [List.map_cons, List.map_cons, List.map_nil, r0_EqNumbers_eq, ha.len, hb.len]
  by_cases hl : xs.length = ys.length
  · rw [bsp_not (by simp [hl]), show ((0 : Int)) = ((0 : Nat) : Int) from rfl, EqNumbers_loop ha hb hl big _ [] xs.length 0 big (by omega) (by rw [big_val]; omega)]
    simp [pureR, toRV, depthA]
  · rw [bsp_of (by simp; omega)]
    have : (xs == ys) = false := by simp; intro e; rw [e] at hl; exact hl rfl
    simp [pureR, toRV, depthA, this]
theorem mapM_ints {h : Hp} (n : Nat) (xs : List Int) : (xs.map fun x => AV.rv (I x)).mapM (toRV h (n + 1)) = some (ints xs) := by
  induction xs with
  | nil => rfl
  | cons b bs ih => simp only [List.map_cons, List.mapM_cons, toRV, ih]; rfl
theorem toRV_ints {h : Hp} {o v : Nat} {xs : List Int} (ho : h[o]? = some ⟨v, 1, xs.map fun x => AV.rv (I x)⟩) : toRV h depthA (.sl o v 0 xs.length) = some (.ros (ints xs) xs.length) := by
  have h1 : ((xs.map fun x => AV.rv (I x)).drop 0).take (xs.length * 1) = xs.map fun x => AV.rv (I x) := by
    rw [List.drop_zero, List.take_of_length_le (by simp)]
  simp only [depthA, toRV, ho]
  rw [if_pos (by simp), h1, mapM_ints]
  rfl
theorem CopyNumbers_spec {a : RV} {xs : List Int} (ha : IsInts a xs) : ∃ r, F_r0_CopyNumbers [a] = some (.ret r) ∧ IsInts r xs := by
  have hs := ha.short
  unfold F_r0_CopyNumbers
  rw [List.map_cons, List.map_nil, r0_CopyNumbers_eq]
  cases ha with
  | nil => exact ⟨.nils, rfl, .nil⟩
  | mk xs hx =>
    have hz : (ints xs).length = xs.length := by simp [ints]
    by_cases h0 : xs.length = 0
    · obtain rfl : xs = [] := by simpa using h0
      exact ⟨.nils, rfl, .nil⟩
    · have e1 : (xs.length : Int) ≤ room := by simp [room]; omega
      have e2 : (8 : Int) * (xs.length : Int) ≤ room := by simp [room]; omega
      have e3 : ((ints xs).take (xs.length * 1)).map AV.rv = xs.map fun x => AV.rv (I x) := by
        rw [List.take_of_length_le (by omega)]; simp [ints]
      have e4 : (xs.map fun x => AV.rv (I x)).all oneA = true := by simp [oneA]
      have e5 : apn 1 8 [] (.rv .nils) (.rv (.ros (ints xs) xs.length)) (fun v1 h2 => some (ARes.ret v1, h2)) = some (.ret (.sl 0 0 0 xs.length), [⟨0, 1, xs.map fun x => AV.rv (I x)⟩]) := by
        simp only [apn, wcells]
        rw [if_pos (by omega)]
        simp only [e3]
        rw [if_neg h0, if_pos ⟨e1, e2, e4⟩]
        rfl
      refine ⟨.ros (ints xs) xs.length, ?_, .mk xs hx⟩
      rw [e5]
      simp only [pureR]
      rw [toRV_ints (by rfl)]
      rfl
end Go.Proofs.Ytknphnmhjmejaaa
/-  Blocks that are reached, in the order of their distance: plain. No conditions. -/
namespace Go.Proofs.Ytknphnmhjmejaaa
set_option linter.unusedVariables false
/-- What is reached from s by ways that do not come to w. -/
inductive Rch (bs : List Blk) (w : Int) (s : Nat) : Nat → Prop
  | start : Rch bs w s s
  | step {a n : Nat} {b : Blk} (r : Rch bs w s a) (hb : bs[a]? = some b) (hn : (n : Int) ∈ b.succs) (hw : (n : Int) ≠ w) : Rch bs w s n
structure BI (bs : List Blk) (w : Int) (s : Nat) (seen : List Bool) (list : List Nat) (i j : Nat) : Prop where
  len : seen.length = bs.length
  cnt : list.length = seen.count true
  mem : ∀ x, x ∈ list ↔ seen[x]? = some true
  rch : ∀ x, x ∈ list → Rch bs w s x
  start : s ∈ list
  done : ∀ t x b, t < i → list[t]? = some x → bs[x]? = some b → ∀ n : Nat, (n : Int) ∈ b.succs → (n : Int) ≠ w → n ∈ list
  cur : ∀ x b, list[i]? = some x → bs[x]? = some b → ∀ q : Nat, q < j → ∀ n : Nat, b.succs[q]? = some (n : Int) → (n : Int) ≠ w → n ∈ list
section
variable {bs : List Blk} {w : Int} {s : Nat} {seen : List Bool} {list : List Nat} {i j : Nat}
theorem BI.bound (k : BI bs w s seen list i j) : list.length ≤ bs.length := by
  rw [k.cnt, ← k.len]
  exact List.count_le_length
theorem BI.lt (k : BI bs w s seen list i j) {x : Nat} (hx : x ∈ list) : x < bs.length := by
  rw [← k.len]
  exact (List.getElem?_eq_some_iff.1 ((k.mem x).1 hx)).1
theorem count_set_true (l : List Bool) (n : Nat) (hn : l[n]? = some false) : (l.set n true).count true = l.count true + 1 := by
  induction l generalizing n with
  | nil => simp at hn
  | cons b l ih =>
    cases n with
    | zero => simp at hn; subst hn; simp
    | succ n =>
      simp only [List.getElem?_cons_succ] at hn
      simp [List.count_cons, ih n hn]
      omega
theorem BI.init (hs : s < bs.length) : BI bs w s ((List.replicate bs.length false).set s true) [s] 0 0 where
  len := by simp
  cnt := by rw [count_set_true _ _ (by simp [hs])]; simp [List.count_replicate]
  mem := fun x => by
    rw [List.getElem?_set]
    by_cases e : s = x
    · subst e; simp [hs]
    · rw [if_neg e, List.getElem?_replicate]
      split <;> simp <;> omega
  rch := fun x hx => by simp at hx; subst hx; exact .start
  start := by simp
  done := fun t x b ht => by omega
  cur := fun x b _ _ q hq => by omega
theorem BI.skip (k : BI bs w s seen list i j) {x n : Nat} {b : Blk} (hx : list[i]? = some x) (hb : bs[x]? = some b) (hn : b.succs[j]? = some (n : Int)) (h : (n : Int) = w ∨ seen[n]? = some true) : BI bs w s seen list i (j + 1) where
  len := k.len
  cnt := k.cnt
  mem := k.mem
  rch := k.rch
  start := k.start
  done := k.done
  cur := fun x' b' hx' hb' q hq m hm hw => by
    rcases Nat.lt_or_ge q j with hlt | hge
    · exact k.cur x' b' hx' hb' q hlt m hm hw
    · obtain rfl : q = j := by omega
      rw [hx] at hx'; cases hx'
      rw [hb] at hb'; cases hb'
      rw [hn] at hm
      simp only [Option.some.injEq] at hm
      have : n = m := by omega
      subst this
      rcases h with h | h
      · exact absurd h hw
      · exact (k.mem n).2 h
theorem BI.push (k : BI bs w s seen list i j) {x n : Nat} {b : Blk} (hx : list[i]? = some x) (hb : bs[x]? = some b) (hn : b.succs[j]? = some (n : Int)) (hw : (n : Int) ≠ w) (hf : seen[n]? = some false) : BI bs w s (seen.set n true) (list ++ [n]) i (j + 1) where
  len := by simp [k.len]
  cnt := by rw [count_set_true _ _ hf]; simp [k.cnt]
  mem := fun y => by
    have hlt := (List.getElem?_eq_some_iff.1 hf).1
    rw [List.mem_append, k.mem, List.getElem?_set]
    by_cases e : n = y
    · subst e; simp [hlt]
    · rw [if_neg e]
      simp
      omega
  rch := fun y hy => by
    rcases List.mem_append.1 hy with hy | hy
    · exact k.rch y hy
    · simp at hy
      subst hy
      exact .step (k.rch x (List.mem_of_getElem? hx)) hb (List.mem_of_getElem? hn) hw
  start := List.mem_append.2 (.inl k.start)
  done := fun t x' b' ht hx' hb' m hm hmw => by
    have hlt : t < list.length := by have := (List.getElem?_eq_some_iff.1 hx).1; omega
    rw [List.getElem?_append_left hlt] at hx'
    exact List.mem_append.2 (.inl (k.done t x' b' ht hx' hb' m hm hmw))
  cur := fun x' b' hx' hb' q hq m hm hmw => by
    have hlt := (List.getElem?_eq_some_iff.1 hx).1
    rw [List.getElem?_append_left hlt] at hx'
    rcases Nat.lt_or_ge q j with hq' | hge
    · exact List.mem_append.2 (.inl (k.cur x' b' hx' hb' q hq' m hm hmw))
    · obtain rfl : q = j := by omega
      rw [hx] at hx'; cases hx'
      rw [hb] at hb'; cases hb'
      rw [hn] at hm
      simp only [Option.some.injEq] at hm
      have : n = m := by omega
      subst this
      simp
theorem BI.next (k : BI bs w s seen list i j) {x : Nat} {b : Blk} (hx : list[i]? = some x) (hb : bs[x]? = some b) (hj : j = b.succs.length) : BI bs w s seen list (i + 1) 0 where
  len := k.len
  cnt := k.cnt
  mem := k.mem
  rch := k.rch
  start := k.start
  done := fun t x' b' ht hx' hb' m hm hmw => by
    rcases Nat.lt_or_ge t i with hlt | hge
    · exact k.done t x' b' hlt hx' hb' m hm hmw
    · obtain rfl : t = i := by omega
      rw [hx] at hx'; cases hx'
      rw [hb] at hb'; cases hb'
      obtain ⟨q, hq⟩ := List.getElem?_of_mem hm
      exact k.cur x b hx hb q (by rw [hj]; exact (List.getElem?_eq_some_iff.1 hq).1) m hq hmw
  cur := fun x' b' _ _ q hq => by omega
theorem BI.fin (k : BI bs w s seen list i j) (hi : list.length ≤ i) (x : Nat) : seen[x]? = some true ↔ Rch bs w s x := by
  rw [← k.mem]
  constructor
  · exact k.rch x
  · intro r
    induction r with
    | start => exact k.start
    | step r hb hn hw ih =>
      obtain ⟨t, ht⟩ := List.getElem?_of_mem ih
      exact k.done t _ _ (by have := (List.getElem?_eq_some_iff.1 ht).1; omega) ht hb _ hn hw
end
end Go.Proofs.Ytknphnmhjmejaaa
/-  What the flow's searches tell. No conditions. -/
namespace Go.Proofs.Ytknphnmhjmejaaa
set_option linter.unusedVariables false
abbrev an' (n : Nat) : AV := .rv (.int .i64 n)
/-- What lies on the heap: the code's cells, the list of what was seen, the list of what is to be looked at. -/
structure RH (h : Hp) (oc os ol vl : Nat) (cells : List AV) (seen : List Bool) (list : List Nat) : Prop where
  c : h[oc]? = some ⟨0, 1, cells⟩
  s : h[os]? = some ⟨0, 1, seen.map ab⟩
  l : h[ol]? = some ⟨vl, 1, list.map an'⟩
  cs : oc ≠ os
  cl : oc ≠ ol
  sl : os ≠ ol
theorem RH.push {h : Hp} {oc os ol vl : Nat} {cells : List AV} {seen : List Bool} {list : List Nat} (k : RH h oc os ol vl cells seen list) (n : Nat) :
    RH ((h.set os ⟨0, 1, (seen.map ab).set n (ab true)⟩ ++ [(⟨0, 1, [an' n]⟩ : Ob)]).set ol ⟨vl + 1, 1, list.map an' ++ [an' n]⟩) oc os ol (vl + 1) cells (seen.set n true) (list ++ [n]) where
  c := get_set_ne k.cl.symm (get_old (get_set_ne k.cs.symm k.c) _)
  s := get_set_ne k.sl.symm (by rw [List.map_set]; exact get_old (get_set_eq k.s) _)
  l := by rw [List.map_append]; exact get_set_eq (get_old (get_set_ne k.sl k.l) _)
  cs := k.cs
  cl := k.cl
  sl := k.sl
theorem RH.init {h : Hp} {oc os n : Nat} {cells : List AV} (hc : h[oc]? = some ⟨0, 1, cells⟩) (hs : h[os]? = some ⟨0, 1, (List.replicate n false).map ab⟩) (hn : oc ≠ os) (x : Nat) :
    RH (h.set os ⟨0, 1, ((List.replicate n false).map ab).set x (ab true)⟩ ++ [(⟨0, 1, [an' x]⟩ : Ob)]) oc os h.length 0 cells ((List.replicate n false).set x true) [x] where
  c := get_old (get_set_ne hn.symm hc) _
  s := by rw [List.map_set]; exact get_old (get_set_eq hs) _
  l := by have := get_new (h := h.set os ⟨0, 1, ((List.replicate n false).map ab).set x (ab true)⟩) ⟨0, 1, [an' x]⟩; rw [List.length_set] at this; exact this
  cs := hn
  cl := by have := get_lt hc; omega
  sl := by have := get_lt hs; omega
theorem ldb_at {R : Type} {h : Hp} {o v e off : Nat} {cs : List AV} {b : Bool} (ho : h[o]? = some ⟨v, e, cs⟩) (hx : cs[off]? = some (ab b)) (K : Bool → Option R) : ldb h (.ptr o v off) K = K b := by
  simp [ldb, ldv, cellAt, ho, hx, asBool0]
/-- All that blocks lead to are blocks. -/
def okSuccs (bs : List Blk) : Prop := ∀ (x : Nat) (b : Blk), bs[x]? = some b → ∀ n ∈ b.succs, ∃ m : Nat, n = m ∧ m < bs.length
theorem okNums_mem {bs : List Blk} {l : List Int} (h : okNums bs l = true) : ∀ n ∈ l, ∃ m : Nat, n = m ∧ m < bs.length := by
  intro n hn
  simp only [okNums, List.all_eq_true, Bool.and_eq_true, decide_eq_true_eq] at h
  obtain ⟨h0, h1⟩ := h n hn
  refine ⟨n.toNat, by omega, ?_⟩
  cases e : bs[n.toNat]? with
  | none => rw [e] at h1; cases h1
  | some b => exact (List.getElem?_eq_some_iff.1 e).1
theorem formOk_succs {bs : List Blk} (h : formOk bs = true) : okSuccs bs := by
  intro x b hb n hn
  simp only [formOk, Bool.and_eq_true, List.all_eq_true] at h
  have := h.2 b (List.mem_of_getElem? hb)
  unfold blkOk at this
  split at this
  · simp at this
    rw [this.2] at hn
    simp at hn
  · simp only [Bool.and_eq_true] at this
    exact okNums_mem this.2 n hn
section
variable {p r v b : RV} {d : Cd} {w : Int} {s : Nat} {oc os ol : Nat} {k' : Nat}
def ReachPost (bs : List Blk) (w : Int) (s os : Nat) (o : Option (ARes × Hp)) : Prop :=
  ∃ (h' : Hp) (seen : List Bool), o = some (.ret (.sl os 0 0 bs.length), h') ∧ h'[os]? = some ⟨0, 1, seen.map ab⟩ ∧ seen.length = bs.length ∧ ∀ x : Nat, seen[x]? = some true ↔ Rch bs w s x
theorem Reached_inner (hd : IsCd [p, r, v, b] d) (hsh : d.blocks.length < 17592186044415) (hok : okSuccs d.blocks) (k N M M' i x : Nat) {bx : Blk} {sv : RV} (hbx : d.blocks[x]? = some bx) (hsv : IsInts sv bx.succs)
    (outer : ∀ seen list vl h, RH h oc os ol vl [.rv p, .rv r, .rv v, .rv b] seen list → BI d.blocks w s seen list (i + 1) 0 → ReachPost d.blocks w s os (r13_Reached_l1012 k N M w (.ptr oc 0 0) (.sl os 0 0 d.blocks.length) (.sl ol vl 0 list.length) ((i + 1 : Nat) : Int) h)) :
    ∀ (m j N' : Nat) (seen : List Bool) (list : List Nat) (vl : Nat) (h : Hp), j + m = bx.succs.length → m < N' → list[i]? = some x → RH h oc os ol vl [.rv p, .rv r, .rv v, .rv b] seen list → BI d.blocks w s seen list i j →
      ReachPost d.blocks w s os (r13_Reached_l129612 k N M N' M' w (.ptr oc 0 0) (.sl os 0 0 d.blocks.length) (.sl ol vl 0 list.length) i (.rv sv) j h) := by
  intro m
  induction m with
  | zero =>
    intro j N' seen list vl h hj hN hx hh hi
    obtain ⟨N', rfl⟩ : ∃ q, N' = q + 1 := ⟨N' - 1, by omega⟩
    have hb := hi.bound
    have hil := (List.getElem?_eq_some_iff.1 hx).1
    rw [r13_Reached_l129612_eq, hsv.len, bsp_not (decide_eq_false (by omega)), r13_Reached_p4051_eq, wri_succ (by omega)]
    exact outer seen list vl h hh (hi.next hx hbx (by omega))
  | succ m ih =>
    intro j N' seen list vl h hj hN hx hh hi
    obtain ⟨N', rfl⟩ : ∃ q, N' = q + 1 := ⟨N' - 1, by omega⟩
    have hjl : j < bx.succs.length := by omega
    have hss := hsv.short
    have hbd := hi.bound
    obtain ⟨n, hn, hnl⟩ := hok x bx hbx bx.succs[j] (List.getElem_mem hjl)
    have hsj : bx.succs[j]? = some (n : Int) := by rw [List.getElem?_eq_getElem hjl, hn]
    rw [r13_Reached_l129612_eq, hsv.len, bsp_of (decide_eq_true (by omega)), hsv.at hjl, hn]
    have hsn : ∃ q, seen[n]? = some q := ⟨seen[n]'(by rw [hi.len]; exact hnl), List.getElem?_eq_getElem _⟩
    obtain ⟨q, hq⟩ := hsn
    have skip : (n : Int) = w ∨ q = true → ReachPost d.blocks w s os (r13_Reached_p2073801 k N M N' M' w (.ptr oc 0 0) (.sl os 0 0 d.blocks.length) (.sl ol vl 0 list.length) i (.rv sv) j false h) := by
      intro hs
      rw [r13_Reached_p2073801_eq, bsp_not rfl, r13_Reached_p518451_eq, wri_succ (by omega)]
      exact ih (j + 1) N' seen list vl h (by omega) (by omega) hx hh (hi.skip hx hbx hsj (hs.imp id fun e => by rw [hq, e]))
    by_cases hw : (n : Int) = w
    · rw [bsp_not (by simp [hw])]
      exact skip (.inl hw)
    · rw [bsp_of (by simpa using hw), hsv.at hjl, hn, sl_at hnl, ldb_at (b := q) hh.s (by simp [hq])]
      cases q with
      | true => exact skip (.inr rfl)
      | false =>
        rw [r13_Reached_p2073801_eq, bsp_of (by rfl), hsv.at hjl, hn, sl_at hnl, stv_at hh.s (by simp; rw [hi.len]; exact hnl) rfl rfl, hsv.at hjl, hn, bsl_one rfl]
        rw [apn_one (get_set_ne hh.sl hh.l) (by simp) (by omega) rfl, r13_Reached_p518451_eq, wri_succ (by omega)]
        have := ih (j + 1) N' (seen.set n true) (list ++ [n]) (vl + 1) _ (by omega) (by omega) (by rw [List.getElem?_append_left (List.getElem?_eq_some_iff.1 hx).1]; exact hx) (hh.push n) (hi.push hx hbx hsj hw hq)
        rw [List.length_append] at this
        exact this
theorem Reached_outer (hd : IsCd [p, r, v, b] d) (hsh : d.blocks.length < 17592186044415) (hok : okSuccs d.blocks) (hk : d.blocks.length + 140737488355330 < k') (M : Nat) :
    ∀ (m i N : Nat) (seen : List Bool) (list : List Nat) (vl : Nat) (h : Hp), i + m = d.blocks.length → m < N → RH h oc os ol vl [.rv p, .rv r, .rv v, .rv b] seen list → BI d.blocks w s seen list i 0 →
      ReachPost d.blocks w s os (r13_Reached_l1012 k' N M w (.ptr oc 0 0) (.sl os 0 0 d.blocks.length) (.sl ol vl 0 list.length) i h) := by
  have fin : ∀ (i N : Nat) (seen : List Bool) (list : List Nat) (vl : Nat) (h : Hp), list.length ≤ i → 0 < N → RH h oc os ol vl [.rv p, .rv r, .rv v, .rv b] seen list → BI d.blocks w s seen list i 0 →
      ReachPost d.blocks w s os (r13_Reached_l1012 k' N M w (.ptr oc 0 0) (.sl os 0 0 d.blocks.length) (.sl ol vl 0 list.length) i h) := by
    intro i N seen list vl h hi hN hh hb
    obtain ⟨N, rfl⟩ : ∃ q, N = q + 1 := ⟨N - 1, by omega⟩
    rw [r13_Reached_l1012_eq, sl_len, bsp_not (decide_eq_false (by omega)), r13_Reached_p127_eq]
    exact ⟨h, seen, rfl, hh.s, hb.len, hb.fin hi⟩
  intro m
  induction m with
  | zero =>
    intro i N seen list vl h hi hN hh hb
    exact fin i N seen list vl h (by have := hb.bound; omega) hN hh hb
  | succ m ih =>
    intro i N seen list vl h hi hN hh hbi
    by_cases hl : list.length ≤ i
    · exact fin i N seen list vl h hl (by omega) hh hbi
    · obtain ⟨N, rfl⟩ : ∃ q, N = q + 1 := ⟨N - 1, by omega⟩
      have hil : i < list.length := by omega
      have hd' := hd
      obtain ⟨p, r, v, b, e, _, _, _, hb⟩ := hd
      cases e
      have hxl : list[i] < d.blocks.length := hbi.lt (List.getElem_mem hil)
      obtain ⟨a, q, t, u, rest, k1, k2, k3, k4, hx⟩ := blk_at (R := ARes × Hp) hb hxl
      rw [r13_Reached_l1012_eq, sl_len, bsp_of (decide_eq_true (by omega)), pad_ptr, ldv_at hh.c rfl, sl_at hil, ldi_at (n := (list[i] : Nat)) hh.l (by simp [hil]), hx, pad_rop4, ldv_rop]
      exact Reached_inner hd' hsh hok k' N M _ i list[i] (List.getElem?_eq_getElem hxl) k3 (fun seen' list' vl' h' hh' hb' => ih (i + 1) N seen' list' vl' h' (by omega) (by omega) hh' hb')
        d.blocks[list[i]].succs.length 0 k' seen list vl h (by omega) (by have := k3.short; omega) (List.getElem?_eq_getElem hil) hh hbi
/-- A list of bools. -/
def IsBools (x : RV) (bs : List Bool) : Prop := x = .ros (bs.map .bool) bs.length
theorem mapM_bools {h : Hp} (n : Nat) (bs : List Bool) : (bs.map ab).mapM (toRV h (n + 1)) = some (bs.map .bool) := by
  induction bs with
  | nil => rfl
  | cons b bs ih => simp [toRV, ih]
theorem toRV_bools {h : Hp} {o : Nat} {bs : List Bool} (ho : h[o]? = some ⟨0, 1, bs.map ab⟩) : toRV h depthA (.sl o 0 0 bs.length) = some (.ros (bs.map .bool) bs.length) := by
  have h1 : ((bs.map ab).drop 0).take (bs.length * 1) = bs.map ab := by
    rw [List.drop_zero, List.take_of_length_le (by simp)]
  simp only [depthA, toRV, ho]
  rw [if_pos (by simp), h1, mapM_bools]
  rfl
theorem Reached_spec {cs : List RV} {d : Cd} (hd : IsCd cs d) (hf : formOk d.blocks = true) (w : Int) :
    ∃ x seen, F_r13_Reached [.agg cs, I w] = some (.ret x) ∧ IsBools x seen ∧ seen.length = d.blocks.length ∧ ∀ i : Nat, seen[i]? = some true ↔ w ≠ 0 ∧ Rch d.blocks w 0 i := by
  have hd' := hd
  obtain ⟨p, r, v, b, rfl, _, _, _, hb⟩ := hd
  have hlen : 0 < d.blocks.length ∧ d.blocks.length ≤ 4096 := by
    simp only [formOk, Bool.and_eq_true, decide_eq_true_eq] at hf
    exact hf.1
  have ho : ([⟨0, 1, [.rv p, .rv r, .rv v, .rv b]⟩] : Hp)[0]? = some ⟨0, 1, [.rv p, .rv r, .rv v, .rv b]⟩ := rfl
  unfold F_r13_Reached
  rw [List.map_cons, List.map_cons, List.map_nil, r13_Reached_eq, box_agg, List.nil_append, List.length_nil, show List.map AV.rv [p, r, v, b] = [.rv p, .rv r, .rv v, .rv b] from rfl,
    pad_ptr, ldv_at ho rfl, hb.len, mks_one (by omega) (by omega)]
  have hz : ∀ n : Nat, zrep [ab false] n = (List.replicate n false).map ab := by
    intro n; simp [zrep]
  by_cases hw : w = 0
  · rw [bsp_of (by simp [hw])]
    refine ⟨_, List.replicate d.blocks.length false, ?_, rfl, by simp, fun i => ?_⟩
    · have := toRV_bools (h := [⟨0, 1, [.rv p, .rv r, .rv v, .rv b]⟩, ⟨0, 1, (List.replicate d.blocks.length false).map ab⟩]) (o := 1) (bs := List.replicate d.blocks.length false) rfl
      simp only [List.length_replicate, List.map_replicate] at this
      simp [pureR, hz, this]
    · rw [List.getElem?_replicate]
      split <;> simp [hw]
  · obtain ⟨h1, eh1⟩ : ∃ h1 : Hp, h1 = [⟨0, 1, [.rv p, .rv r, .rv v, .rv b]⟩] ++ [⟨0, 1, zrep [ab false] d.blocks.length⟩] := ⟨_, rfl⟩
    have hc0 : h1[0]? = some ⟨0, 1, [.rv p, .rv r, .rv v, .rv b]⟩ := by rw [eh1]; rfl
    have hs0 : h1[1]? = some ⟨0, 1, (List.replicate d.blocks.length false).map ab⟩ := by rw [eh1, hz]; rfl
    have hl1 : ([⟨0, 1, [.rv p, .rv r, .rv v, .rv b]⟩] : Hp).length = 1 := rfl
    rw [bsp_not (by simpa using hw), hl1, ← eh1, show ((0 : Int)) = ((0 : Nat) : Int) from rfl, sl_at hlen.1, stv_at hs0 (by simp; exact hlen.1) rfl rfl, bsl_one rfl, List.length_set]
    obtain ⟨h', seen, e, h2, h3, h4⟩ := Reached_outer (w := w) (s := 0) (k' := big) hd' (by omega) (formOk_succs hf) (by rw [big_val]; omega)
      (h1.set 1 ⟨0, 1, ((List.replicate d.blocks.length false).map ab).set 0 (ab true)⟩ ++ [(⟨0, 1, [an' 0]⟩ : Ob)]).length d.blocks.length 0 big _ [0] 0 _ (by omega) (by rw [big_val]; omega) (RH.init hc0 hs0 (by omega) 0) (BI.init hlen.1)
    refine ⟨_, seen, ?_, rfl, h3, fun i => by simp [hw, h4]⟩
    have ht := toRV_bools h2
    rw [h3] at ht ⊢
    rw [show (([0] : List Nat).length) = 1 from rfl] at e
    rw [e]
    simp [pureR, ht]
end
end Go.Proofs.Ytknphnmhjmejaaa
/-  What the page's own Flow tells. No conditions. -/
namespace Go.Proofs.Ytknphnmhjmejaaa
set_option linter.unusedVariables false
/-- A block's kind, its ways on and its ways in fit. -/
def Joins (bs : List Blk) (i : Nat) (b : Blk) : Prop :=
  b.kind ≠ 0 → (b.succs.length : Int) = succsOf b.kind ∧ (∀ s ∈ b.succs, ∀ c, bs[s.toNat]? = some c → c.preds.count (i : Int) = b.succs.count s) ∧ (∀ p ∈ b.preds, ∀ c, bs[p.toNat]? = some c → c.succs.count (i : Int) ≠ 0)
/-- What is asked of blocks that have the form. -/
structure FlowOk (bs : List Blk) : Prop where
  head : ∀ b, bs[0]? = some b → b.kind ≠ 0 ∧ b.preds = []
  join : ∀ (i : Nat) (b : Blk), bs[i]? = some b → Joins bs i b
  reach : ∀ (i : Nat) (b : Blk), bs[i]? = some b → b.kind ≠ 0 → Rch bs (-1) 0 i
def Says (Q : Prop) (o : Option (ARes × Hp)) : Prop := (Q → ∃ h', o = some (.ret (ai 0), h')) ∧ (¬ Q → ∃ h', o = some (.ret (ai 131), h'))
theorem Says.bad {Q : Prop} {h : Hp} (hq : ¬ Q) : Says Q (some (.ret (.rv (.int .i64 131)), h)) := ⟨fun q => absurd q hq, fun _ => ⟨h, rfl⟩⟩
theorem Says.good {Q : Prop} {h : Hp} (hq : Q) : Says Q (some (.ret (.rv (.int .i64 0)), h)) := ⟨fun _ => ⟨h, rfl⟩, fun q => absurd hq q⟩
theorem formOk_preds {bs : List Blk} (h : formOk bs = true) : ∀ (x : Nat) (b : Blk), bs[x]? = some b → ∀ n ∈ b.preds, ∃ m : Nat, n = m ∧ m < bs.length := by
  intro x b hb n hn
  simp only [formOk, Bool.and_eq_true, List.all_eq_true] at h
  have := h.2 b (List.mem_of_getElem? hb)
  unfold blkOk at this
  split at this
  · simp at this
    rw [this.1] at hn
    simp at hn
  · simp only [Bool.and_eq_true] at this
    exact okNums_mem this.1.2 n hn
section
variable {p r v b : RV} {d : Cd} {oc : Nat}
theorem Flow_reached {x7 : RV} {seen : List Bool} (hd : IsCd [p, r, v, b] d) (hx7 : IsBools x7 seen) (hlen : seen.length = d.blocks.length) (hs4 : d.blocks.length ≤ 4096) (hseen : ∀ i : Nat, seen[i]? = some true ↔ Rch d.blocks (-1) 0 i) (k M : Nat)
    (Q : Prop) (hQ : Q ↔ ∀ (i : Nat) (b : Blk), d.blocks[i]? = some b → b.kind ≠ 0 → Rch d.blocks (-1) 0 i) : ∀ (m i N : Nat) (h : Hp), i + m = d.blocks.length → m < N → h[oc]? = some ⟨0, 1, [.rv p, .rv r, .rv v, .rv b]⟩ →
      (∀ (j : Nat) (b : Blk), j < i → d.blocks[j]? = some b → b.kind ≠ 0 → Rch d.blocks (-1) 0 j) → Says Q (r13_Flow_l1012 k N M (.ptr oc 0 0) (.rv x7) i h) := by
  have hd' := hd
  obtain ⟨p, r, v, b, e, _, _, _, hb⟩ := hd
  cases e
  intro m
  induction m with
  | zero =>
    intro i N h hi hN ho hp
    obtain ⟨N, rfl⟩ : ∃ q, N = q + 1 := ⟨N - 1, by omega⟩
    rw [r13_Flow_l1012_eq, pad_ptr, ldv_at ho rfl, hb.len, bsp_not (decide_eq_false (by omega)), r13_Flow_p127_eq]
    exact Says.good (hQ.2 fun j b hj hk => hp j b (by have := (List.getElem?_eq_some_iff.1 hj).1; omega) hj hk)
  | succ m ih =>
    intro i N h hi hN ho hp
    obtain ⟨N, rfl⟩ : ∃ q, N = q + 1 := ⟨N - 1, by omega⟩
    have hlt : i < d.blocks.length := by omega
    obtain ⟨a, q, s, t, rest, k1, k2, k3, k4, hx⟩ := blk_at (R := ARes × Hp) hb hlt
    have hbk : IsBlk [I d.blocks[i].kind, I d.blocks[i].n, a, q, s, t] d.blocks[i] := ⟨a, q, s, t, rfl, k1, k2, k3, k4⟩
    have next : (d.blocks[i].kind ≠ 0 → Rch d.blocks (-1) 0 i) → Says Q (r13_Flow_p16201 k N M (.ptr oc 0 0) (.rv x7) i false h) := by
      intro hr
      rw [r13_Flow_p16201_eq, bsp_not rfl, wri_succ (by omega)]
      refine ih (i + 1) N h (by omega) (by omega) ho fun j c hj hc hk => ?_
      rcases Nat.lt_or_ge j i with hlt' | hge
      · exact hp j c hlt' hc hk
      · obtain rfl : j = i := by omega
        rw [List.getElem?_eq_getElem hlt] at hc
        cases hc
        exact hr hk
    rw [r13_Flow_l1012_eq, pad_ptr, ldv_at ho rfl, hb.len, bsp_of (decide_eq_true (by omega)), pad_ptr, ldv_at ho rfl, hx, ldg6, callP_ret (by simp [toRV, depthA]) (Hole_spec hbk) (.inr rfl), asBool_b]
    by_cases h0 : d.blocks[i].kind = 0
    · rw [bsp_not (by simp [h0])]
      exact next fun hk => absurd h0 hk
    · rw [bsp_of (by simp [h0])]
      have hil : i < seen.length := by omega
      have e1 : ∀ K : Bool → Option (ARes × Hp), (ixa 1 (.rv x7) i fun p => ldb h p K) = K seen[i] := by
        intro K
        rw [hx7]
        have : ((i : Int) < seen.length) := by omega
        simp [ixa, ldb, ldv, cellAt, asBool0, hil]
      rw [e1]
      cases e : seen[i] with
      | true =>
        exact next fun _ => (hseen i).1 (by rw [List.getElem?_eq_getElem hil, e])
      | false =>
        rw [r13_Flow_p16201_eq, bsp_of (by rfl)]
        refine Says.bad fun hq => ?_
        have := (hseen i).2 (hQ.1 hq i d.blocks[i] (List.getElem?_eq_getElem hlt) h0)
        rw [List.getElem?_eq_getElem hil, e] at this
        cases this
theorem Flow_preds (hd : IsCd [p, r, v, b] d) (hf : formOk d.blocks = true) (k N M M' : Nat) (Q : Prop) (hQ : Q → ∀ (i : Nat) (b : Blk), d.blocks[i]? = some b → Joins d.blocks i b) {o i : Nat} (hi : i < d.blocks.length) (hk0 : d.blocks[i].kind ≠ 0) {a q s t : RV}
    (k1 : IsInts a d.blocks[i].args) (k2 : IsInts q d.blocks[i].preds) (k3 : IsInts s d.blocks[i].succs) (k4 : IsInts t d.blocks[i].list)
    (next : ∀ h, h[oc]? = some ⟨0, 1, [.rv p, .rv r, .rv v, .rv b]⟩ → (∀ x ∈ d.blocks[i].preds, ∀ c, d.blocks[x.toNat]? = some c → c.succs.count (i : Int) ≠ 0) → Says Q (r13_Flow_p979 k N M (.ptr oc 0 0) i h)) :
    ∀ (m j N' : Nat) (h : Hp), j + m = d.blocks[i].preds.length → m < N' → h[oc]? = some ⟨0, 1, [.rv p, .rv r, .rv v, .rv b]⟩ → h[o]? = some ⟨0, 1, [.rv (I d.blocks[i].kind), .rv (I d.blocks[i].n), .rv a, .rv q, .rv s, .rv t]⟩ →
      (∀ x ∈ d.blocks[i].preds.take j, ∀ c, d.blocks[x.toNat]? = some c → c.succs.count (i : Int) ≠ 0) → Says Q (r13_Flow_l250492 k N M N' M' (.ptr oc 0 0) i (.ptr o 0 0) j h) := by
  have hs := k2.short
  obtain ⟨p, r, v, b, e, _, _, _, hb⟩ := hd
  cases e
  intro m
  induction m with
  | zero =>
    intro j N' h hj hN hc ho hp
    obtain ⟨N', rfl⟩ : ∃ q, N' = q + 1 := ⟨N' - 1, by omega⟩
    rw [r13_Flow_l250492_eq, pad_ptr, ldv_at ho rfl, k2.len, bsp_not (decide_eq_false (by omega))]
    rw [List.take_of_length_le (by omega)] at hp
    exact next h hc hp
  | succ m ih =>
    intro j N' h hj hN hc ho hp
    obtain ⟨N', rfl⟩ : ∃ q, N' = q + 1 := ⟨N' - 1, by omega⟩
    have hlt : j < d.blocks[i].preds.length := by omega
    obtain ⟨n, hn, hnl⟩ := formOk_preds hf i d.blocks[i] (List.getElem?_eq_getElem hi) d.blocks[i].preds[j] (List.getElem_mem hlt)
    obtain ⟨a', q', s', t', rest, k1', k2', k3', k4', hx⟩ := blk_at (R := ARes × Hp) hb hnl
    rw [r13_Flow_l250492_eq, pad_ptr, ldv_at ho rfl, k2.len, bsp_of (decide_eq_true (by omega)), pad_ptr, ldv_at hc rfl, pad_ptr, ldv_at ho rfl, k2.at hlt, hn, hx, pad_rop4, ldv_rop,
      callP_ret (by simp [toRV, depthA]) (Count_spec k3' (i : Int)) (.inr rfl), asInt_i]
    by_cases h0 : d.blocks[n].succs.count (i : Int) = 0
    · rw [bsp_of (by simp [h0])]
      refine Says.bad fun hq => ?_
      have := (hQ hq i d.blocks[i] (List.getElem?_eq_getElem hi) hk0).2.2 d.blocks[i].preds[j] (List.getElem_mem hlt) d.blocks[n] (by rw [hn]; simp [hnl])
      exact this h0
    · rw [bsp_not (by simp; omega), wri_succ (by omega)]
      refine ih (j + 1) N' h (by omega) (by omega) hc ho fun x hx c hcx => ?_
      rw [List.take_add_one, List.getElem?_eq_getElem hlt, List.mem_append] at hx
      rcases hx with hx | hx
      · exact hp x hx c hcx
      · simp at hx
        subst hx
        rw [hn] at hcx
        simp [hnl] at hcx
        subst hcx
        exact h0
theorem Flow_succs (hd : IsCd [p, r, v, b] d) (hf : formOk d.blocks = true) (k N M M' : Nat) (Q : Prop) (hQ : Q → ∀ (i : Nat) (b : Blk), d.blocks[i]? = some b → Joins d.blocks i b) {o i : Nat} (hi : i < d.blocks.length) (hk0 : d.blocks[i].kind ≠ 0) {a q s t : RV}
    (k1 : IsInts a d.blocks[i].args) (k2 : IsInts q d.blocks[i].preds) (k3 : IsInts s d.blocks[i].succs) (k4 : IsInts t d.blocks[i].list)
    (next : ∀ h, h[oc]? = some ⟨0, 1, [.rv p, .rv r, .rv v, .rv b]⟩ → h[o]? = some ⟨0, 1, [.rv (I d.blocks[i].kind), .rv (I d.blocks[i].n), .rv a, .rv q, .rv s, .rv t]⟩ →
      (∀ x ∈ d.blocks[i].succs, ∀ c, d.blocks[x.toNat]? = some c → c.preds.count (i : Int) = d.blocks[i].succs.count x) → Says Q (r13_Flow_p31311 k N M (.ptr oc 0 0) i (.ptr o 0 0) h)) :
    ∀ (m j N' : Nat) (h : Hp), j + m = d.blocks[i].succs.length → m < N' → h[oc]? = some ⟨0, 1, [.rv p, .rv r, .rv v, .rv b]⟩ → h[o]? = some ⟨0, 1, [.rv (I d.blocks[i].kind), .rv (I d.blocks[i].n), .rv a, .rv q, .rv s, .rv t]⟩ →
      (∀ x ∈ d.blocks[i].succs.take j, ∀ c, d.blocks[x.toNat]? = some c → c.preds.count (i : Int) = d.blocks[i].succs.count x) → Says Q (r13_Flow_l250484 k N M N' M' (.ptr oc 0 0) i (.ptr o 0 0) j h) := by
  have hs := k3.short
  obtain ⟨p, r, v, b, e, _, _, _, hb⟩ := hd
  cases e
  intro m
  induction m with
  | zero =>
    intro j N' h hj hN hc ho hp
    obtain ⟨N', rfl⟩ : ∃ q, N' = q + 1 := ⟨N' - 1, by omega⟩
    rw [r13_Flow_l250484_eq, pad_ptr, ldv_at ho rfl, k3.len, bsp_not (decide_eq_false (by omega))]
    rw [List.take_of_length_le (by omega)] at hp
    exact next h hc ho hp
  | succ m ih =>
    intro j N' h hj hN hc ho hp
    obtain ⟨N', rfl⟩ : ∃ q, N' = q + 1 := ⟨N' - 1, by omega⟩
    have hlt : j < d.blocks[i].succs.length := by omega
    obtain ⟨n, hn, hnl⟩ := formOk_succs hf i d.blocks[i] (List.getElem?_eq_getElem hi) d.blocks[i].succs[j] (List.getElem_mem hlt)
    obtain ⟨a', q', s', t', rest, k1', k2', k3', k4', hx⟩ := blk_at (R := ARes × Hp) hb hnl
    rw [r13_Flow_l250484_eq, pad_ptr, ldv_at ho rfl, k3.len, bsp_of (decide_eq_true (by omega)), pad_ptr, ldv_at hc rfl, pad_ptr, ldv_at ho rfl, k3.at hlt, hn, hx, pad_rop3, ldv_rop,
      callP_ret (by simp [toRV, depthA]) (Count_spec k2' (i : Int)) (.inr rfl), asInt_i, pad_ptr, ldv_at ho rfl, pad_ptr, ldv_at ho rfl, k3.at hlt, hn, callP_ret (by simp [toRV, depthA]) (Count_spec k3 (n : Int)) (.inr rfl), asInt_i]
    by_cases h0 : d.blocks[n].preds.count (i : Int) = d.blocks[i].succs.count (n : Int)
    · rw [bsp_not (by simp [h0]), wri_succ (by omega)]
      refine ih (j + 1) N' h (by omega) (by omega) hc ho fun x hx c hcx => ?_
      rw [List.take_add_one, List.getElem?_eq_getElem hlt, List.mem_append] at hx
      rcases hx with hx | hx
      · exact hp x hx c hcx
      · simp at hx
        subst hx
        rw [hn] at hcx ⊢
        simp [hnl] at hcx
        subst hcx
        exact h0
    · rw [bsp_of (by simp; omega)]
      refine Says.bad fun hq => ?_
      have := (hQ hq i d.blocks[i] (List.getElem?_eq_getElem hi) hk0).2.1 d.blocks[i].succs[j] (List.getElem_mem hlt) d.blocks[n] (by rw [hn]; simp [hnl])
      rw [hn] at this
      exact h0 this
theorem Flow_outer (hd : IsCd [p, r, v, b] d) (hf : formOk d.blocks = true) (hhead : ∀ b, d.blocks[0]? = some b → b.kind ≠ 0 ∧ b.preds = []) (k M : Nat) (hk : 1000000000 < k) : ∀ (m i N : Nat) (h : Hp), i + m = d.blocks.length → m < N → h[oc]? = some ⟨0, 1, [.rv p, .rv r, .rv v, .rv b]⟩ →
      (∀ (j : Nat) (b : Blk), j < i → d.blocks[j]? = some b → Joins d.blocks j b) → Says (FlowOk d.blocks) (r13_Flow_l244 k N M (.ptr oc 0 0) i h) := by
  have hd' := hd
  have hl : 0 < d.blocks.length ∧ d.blocks.length ≤ 4096 := by
    simp only [formOk, Bool.and_eq_true, decide_eq_true_eq] at hf
    exact hf.1
  obtain ⟨p, r, v, b, e, _, _, _, hb⟩ := hd
  cases e
  intro m
  induction m with
  | zero =>
    intro i N h hi hN hc hp
    obtain ⟨N, rfl⟩ : ∃ q, N = q + 1 := ⟨N - 1, by omega⟩
    obtain ⟨x, seen, e, hx, hlen, hseen⟩ := Reached_spec hd' hf (-1)
    have hj : ∀ (j : Nat) (b : Blk), d.blocks[j]? = some b → Joins d.blocks j b := fun j b hj => hp j b (by have := (List.getElem?_eq_some_iff.1 hj).1; omega) hj
    rw [r13_Flow_l244_eq, pad_ptr, ldv_at hc rfl, hb.len, bsp_not (decide_eq_false (by omega)), r13_Flow_p31_eq, ldg_at hc (by rfl), callP_ret (by simp [toRV, depthA]) e (.inl rfl), show ((0 : Int)) = ((0 : Nat) : Int) from rfl]
    exact Flow_reached hd' hx hlen hl.2 (fun i => by simpa using hseen i) k _ (FlowOk d.blocks) ⟨fun q => q.reach, fun q => ⟨hhead, hj, q⟩⟩ d.blocks.length 0 k h (by omega) (by omega) hc (fun j b hj => by omega)
  | succ m ih =>
    intro i N h hi hN hc hp
    obtain ⟨N, rfl⟩ : ∃ q, N = q + 1 := ⟨N - 1, by omega⟩
    have hlt : i < d.blocks.length := by omega
    obtain ⟨a, q, s, t, rest, k1, k2, k3, k4, hx⟩ := blk_at (R := ARes × Hp) hb hlt
    have hbk : IsBlk [I d.blocks[i].kind, I d.blocks[i].n, a, q, s, t] d.blocks[i] := ⟨a, q, s, t, rfl, k1, k2, k3, k4⟩
    have hs2 := k2.short
    have hs3 := k3.short
    have next : ∀ h, h[oc]? = some ⟨0, 1, [.rv p, .rv r, .rv v, .rv b]⟩ → Joins d.blocks i d.blocks[i] → Says (FlowOk d.blocks) (r13_Flow_p979 k N M (.ptr oc 0 0) i h) := by
      intro h hc hj
      rw [r13_Flow_p979_eq, wri_succ (by omega)]
      refine ih (i + 1) N h (by omega) (by omega) hc fun j c hjl hcj => ?_
      rcases Nat.lt_or_ge j i with hlt' | hge
      · exact hp j c hlt' hcj
      · obtain rfl : j = i := by omega
        rw [List.getElem?_eq_getElem hlt] at hcj
        cases hcj
        exact hj
    rw [r13_Flow_l244_eq, pad_ptr, ldv_at hc rfl, hb.len, bsp_of (decide_eq_true (by omega)), pad_ptr, ldv_at hc rfl, hx, ldg6, var_agg (n := 6) (by rfl) (by rfl) (by simp [k1.one, k2.one, k3.one, k4.one, oneI])]
    have hc2 := get_old hc [⟨0, 1, [.rv (I d.blocks[i].kind), .rv (I d.blocks[i].n), .rv a, .rv q, .rv s, .rv t]⟩]
    have ho := get_new (h := h) ⟨0, 1, [.rv (I d.blocks[i].kind), .rv (I d.blocks[i].n), .rv a, .rv q, .rv s, .rv t]⟩
    generalize h ++ [⟨0, 1, [.rv (I d.blocks[i].kind), .rv (I d.blocks[i].n), .rv a, .rv q, .rv s, .rv t]⟩] = h2 at hc2 ho ⊢
    rw [ldg_at ho (by rfl), callP_ret (by simp [toRV, depthA]) (Hole_spec hbk) (.inr rfl), asBool_b]
    by_cases h0 : d.blocks[i].kind = 0
    · rw [bsp_of (by simpa using h0)]
      exact next h2 hc2 fun hk => absurd h0 hk
    · rw [bsp_not (by simpa using h0), pad_ptr, ldv_at ho rfl, k3.len, pad_ptr, ldi_at ho rfl, callP_ret (by simp [toRV, depthA]) (succs_spec d.blocks[i].kind) (.inr rfl), asInt_i]
      by_cases h1 : (d.blocks[i].succs.length : Int) = succsOf d.blocks[i].kind
      · rw [bsp_not (by simp [h1]), show ((0 : Int)) = ((0 : Nat) : Int) from rfl]
        refine Flow_succs hd' hf k N M _ (FlowOk d.blocks) (fun q => q.join) hlt h0 k1 k2 k3 k4 (fun h3 hc3 ho3 hsu => ?_) d.blocks[i].succs.length 0 k h2 (by omega) (by omega) hc2 ho (by simp)
        rw [r13_Flow_p31311_eq, show ((0 : Int)) = ((0 : Nat) : Int) from rfl]
        exact Flow_preds hd' hf k N M _ (FlowOk d.blocks) (fun q => q.join) hlt h0 k1 k2 k3 k4 (fun h4 hc4 hpr => next h4 hc4 fun _ => ⟨h1, hsu, hpr⟩) d.blocks[i].preds.length 0 k h3 (by omega) (by omega) hc3 ho3 (by simp)
      · rw [bsp_of (by simpa using h1)]
        exact Says.bad fun q => h1 (q.join i d.blocks[i] (List.getElem?_eq_getElem hlt) h0).1
end
theorem Flow_spec {cs : List RV} {d : Cd} (hd : IsCd cs d) :
    (formOk d.blocks = false → F_r13_Flow [.agg cs] = some (.ret (I 130))) ∧ (formOk d.blocks = true → FlowOk d.blocks → F_r13_Flow [.agg cs] = some (.ret (I 0))) ∧ (formOk d.blocks = true → ¬ FlowOk d.blocks → F_r13_Flow [.agg cs] = some (.ret (I 131))) := by
  have hd' := hd
  obtain ⟨p, r, v, b, rfl, _, _, _, hb⟩ := hd
  have hs := hb.short
  have ho : ([⟨0, 1, [.rv p, .rv r, .rv v, .rv b]⟩] : Hp)[0]? = some ⟨0, 1, [.rv p, .rv r, .rv v, .rv b]⟩ := rfl
  have start : F_r13_Flow [.agg [p, r, v, b]] = pureR (bsp (!(formOk d.blocks)) (some (.ret (.rv (.int .i64 130)), [⟨0, 1, [.rv p, .rv r, .rv v, .rv b]⟩])) (pad (.ptr 0 0 0) 3 fun p7 => ldv [⟨0, 1, [.rv p, .rv r, .rv v, .rv b]⟩] p7 fun v8 => ixa 6 v8 0 fun p9 => ldg 6 [⟨0, 1, [.rv p, .rv r, .rv v, .rv b]⟩] p9 fun v10 =>
      callP F_r13_Hole [⟨0, 1, [.rv p, .rv r, .rv v, .rv b]⟩] [v10] (fun r11 => asBool r11 fun b13 => bsp (b13) (r13_Flow_p29 big (.ptr 0 0 0) (true) [⟨0, 1, [.rv p, .rv r, .rv v, .rv b]⟩]) (pad (.ptr 0 0 0) 3 fun p14 => ldv [⟨0, 1, [.rv p, .rv r, .rv v, .rv b]⟩] p14 fun v15 => ixa 6 v15 0 fun p16 => pad p16 3 fun p17 =>
        ldv [⟨0, 1, [.rv p, .rv r, .rv v, .rv b]⟩] p17 fun v18 => lna v18 fun n19 => r13_Flow_p29 big (.ptr 0 0 0) (decide (n19 > 0)) [⟨0, 1, [.rv p, .rv r, .rv v, .rv b]⟩])) (fun q12 => some (.pan q12, [⟨0, 1, [.rv p, .rv r, .rv v, .rv b]⟩])))) := by
    unfold F_r13_Flow
    rw [List.map_cons, List.map_nil, r13_Flow_eq, box_agg, List.nil_append, List.length_nil, show List.map AV.rv [p, r, v, b] = [.rv p, .rv r, .rv v, .rv b] from rfl, ldg_at ho (by rfl), callP_ret (by simp [toRV, depthA]) (form_spec hd') (.inr rfl), asBool_b]
  rw [start]
  cases hf : formOk d.blocks with
  | false =>
    refine ⟨fun _ => ?_, fun h => (by cases h), fun h => (by cases h)⟩
    rw [bsp_of (by rfl)]
    simp [pureR, toRV, depthA]
  | true =>
    have hl : 0 < d.blocks.length ∧ d.blocks.length ≤ 4096 := by
      simp only [formOk, Bool.and_eq_true, decide_eq_true_eq] at hf
      exact hf.1
    have key : Says (FlowOk d.blocks) (pad (.ptr 0 0 0) 3 fun p7 => ldv [⟨0, 1, [.rv p, .rv r, .rv v, .rv b]⟩] p7 fun v8 => ixa 6 v8 0 fun p9 => ldg 6 [⟨0, 1, [.rv p, .rv r, .rv v, .rv b]⟩] p9 fun v10 =>
      callP F_r13_Hole [⟨0, 1, [.rv p, .rv r, .rv v, .rv b]⟩] [v10] (fun r11 => asBool r11 fun b13 => bsp (b13) (r13_Flow_p29 big (.ptr 0 0 0) (true) [⟨0, 1, [.rv p, .rv r, .rv v, .rv b]⟩]) (pad (.ptr 0 0 0) 3 fun p14 => ldv [⟨0, 1, [.rv p, .rv r, .rv v, .rv b]⟩] p14 fun v15 => ixa 6 v15 0 fun p16 => pad p16 3 fun p17 =>
        ldv [⟨0, 1, [.rv p, .rv r, .rv v, .rv b]⟩] p17 fun v18 => lna v18 fun n19 => r13_Flow_p29 big (.ptr 0 0 0) (decide (n19 > 0)) [⟨0, 1, [.rv p, .rv r, .rv v, .rv b]⟩])) (fun q12 => some (.pan q12, [⟨0, 1, [.rv p, .rv r, .rv v, .rv b]⟩]))) := by
      obtain ⟨a, q, s, t, rest, k1, k2, k3, k4, hx⟩ := blk_at (R := ARes × Hp) hb hl.1
      have hbk : IsBlk [I d.blocks[0].kind, I d.blocks[0].n, a, q, s, t] d.blocks[0] := ⟨a, q, s, t, rfl, k1, k2, k3, k4⟩
      have h00 : d.blocks[0]? = some d.blocks[0] := List.getElem?_eq_getElem hl.1
      rw [pad_ptr, ldv_at ho rfl, show ((0 : Int)) = ((0 : Nat) : Int) from rfl, hx, ldg6, callP_ret (by simp [toRV, depthA]) (Hole_spec hbk) (.inr rfl), asBool_b]
      by_cases h0 : d.blocks[0].kind = 0
      · rw [bsp_of (by simpa using h0), r13_Flow_p29_eq, bsp_of rfl]
        exact Says.bad fun q => (q.head _ h00).1 h0
      · rw [bsp_not (by simpa using h0), pad_ptr, ldv_at ho rfl, hx, pad_rop3, ldv_rop, k2.len, r13_Flow_p29_eq]
        by_cases h1 : d.blocks[0].preds = []
        · rw [bsp_not (by simp [h1]), show ((0 : Int)) = ((0 : Nat) : Int) from rfl]
          exact Flow_outer hd' hf (fun b hb => by rw [h00] at hb; cases hb; exact ⟨h0, h1⟩) big _ (by rw [big_val]; omega) d.blocks.length 0 big _ (by omega) (by rw [big_val]; omega) ho (fun j b hj => by omega)
        · have : 0 < d.blocks[0].preds.length := List.length_pos_iff.2 h1
          rw [bsp_of (decide_eq_true (by omega))]
          exact Says.bad fun q => h1 (q.head _ h00).2
    rw [bsp_not (by rfl)]
    refine ⟨fun h => (by cases h), fun _ q => ?_, fun _ q => ?_⟩
    · obtain ⟨h', e⟩ := key.1 q
      rw [e]
      simp [pureR, toRV, depthA]
    · obtain ⟨h', e⟩ := key.2 q
      rw [e]
      simp [pureR, toRV, depthA]
end Go.Proofs.Ytknphnmhjmejaaa
/-  What the program's small checks tell. No conditions. -/
namespace Go.Proofs.Ytknphnmhjmejaaa
set_option linter.unusedVariables false
theorem callV_gen {R : Type} {Γ : FuncId → Option Callee} {f : FuncId} {fst cap : List AV} {G : List AV → Hp → Option (ARes × Hp)} (hf : Γ f = some (.gen G)) {args : List AV} {h h' : Hp} {r : AV} (hg : G (fst ++ args ++ cap) h = some (.ret r, h')) (K Kp : AV → Hp → Option R) :
    callV Γ (.func f fst cap) h args K Kp = K r h' := by
  simp only [callV, callC, hf, callG, hg]
theorem callG_ret {R : Type} {G : List AV → Hp → Option (ARes × Hp)} {args : List AV} {h h' : Hp} {r : AV} (hg : G args h = some (.ret r, h')) (K Kp : AV → Hp → Option R) : callG G h args K Kp = K r h' := by
  simp [callG, hg]
theorem callG_pan {R : Type} {G : List AV → Hp → Option (ARes × Hp)} {args : List AV} {h h' : Hp} {r : AV} (hg : G args h = some (.pan r, h')) (K Kp : AV → Hp → Option R) : callG G h args K Kp = Kp r h' := by
  simp [callG, hg]
theorem callP_pan {R : Type} {h : Hp} {F : List RV → Option Res} {args : List AV} {rs : List RV} {r : RV} (ha : args.mapM (toRV h depthA) = some rs) (hF : F rs = some (.pan r)) (hf : args.all isRV = true ∨ flatR r = true) (K Kp : AV → Option R) :
    callP F h args K Kp = Kp (.rv r) := by
  simp only [callP, ha, hF, hf, if_true]
theorem nck_ptr {R : Type} {o v off : Nat} (K : AV → Option R) : nck (.ptr o v off) K = K (.ptr o v off) := rfl
/-- An error that is thrown. -/
abbrev errA (e : Int) : RV := .iface 32 (I e)
theorem must_true (e : Int) : F_ssa_must [.bool true, I e] = some (.ret (.tuple [])) := by
  unfold F_ssa_must
  rw [List.map_cons, List.map_cons, List.map_nil, ssa_must_eq, bsp_not (by rfl)]
  rfl
theorem must_false (e : Int) : F_ssa_must [.bool false, I e] = some (.pan (errA e)) := by
  unfold F_ssa_must
  rw [List.map_cons, List.map_cons, List.map_nil, ssa_must_eq, bsp_of (by rfl)]
  rfl
theorem must_call {R : Type} {h : Hp} {b : Bool} {e : Int} (K Kp : AV → Option R) : callP F_ssa_must h [.rv (.bool b), .rv (.int .i64 e)] K Kp = if b then K (.rv (.tuple [])) else Kp (.rv (errA e)) := by
  cases b with
  | true => rw [callP_ret (by simp [toRV, depthA]) (must_true e) (.inr rfl)]; rfl
  | false => rw [callP_pan (by simp [toRV, depthA]) (must_false e) (.inr rfl)]; rfl
def isBlkN (bs : List Blk) (n : Int) : Bool := decide (0 ≤ n) && match bs[n.toNat]? with | some b => b.kind != 0 | none => false
theorem okNums_eq (bs : List Blk) (l : List Int) : okNums bs l = l.all (isBlkN bs) := rfl
theorem isBlock_spec {ok e : Nat} {cells : List AV} {h : Hp} {bs : List Blk} {b : RV} (ho : h[ok]? = some ⟨0, e, cells⟩) (hc : cells[5]? = some (.rv b)) (hb : IsRows 6 IsBlk b bs) (n : Int) :
    G_ssa_checker_isBlock [.ptr ok 0 0, ai n] h = some (.ret (ab (isBlkN bs n)), h) := by
  unfold G_ssa_checker_isBlock
  rw [ssa_checker_isBlock_eq]
  simp only [nck_ptr, pad_ptr, ldv_at ho hc, hb.len, ssa_checker_isBlock_p7_eq, isBlkN]
  by_cases h0 : 0 ≤ n
  · obtain ⟨m, rfl⟩ : ∃ m : Nat, n = m := ⟨n.toNat, by omega⟩
    rw [bsp_of (decide_eq_true h0)]
    by_cases h1 : m < bs.length
    · obtain ⟨a, p, s, t, rest, _, _, _, _, hx⟩ := blk_at (R := ARes × Hp) hb h1
      rw [bsp_of (decide_eq_true (by omega)), hx]
      simp [pad, ldi, ldv, cellAt, asInt0, h1]
    · rw [bsp_not (decide_eq_false (by omega))]
      simp [h1]
  · rw [bsp_not (decide_eq_false (by omega))]
    simp [h0]
/-- A function value that tells of each of some numbers whether something is so, and but lays new variables. -/
def Asks (Γ : FuncId → Option Callee) (h : Hp) (fv : AV) (xs : List Int) (p : Int → Bool) : Prop :=
  ∀ n ∈ xs, ∀ l, ∃ l', ∀ (R : Type) (K Kp : AV → Hp → Option R), callV Γ fv (h ++ l) [ai n] K Kp = K (ab (p n)) (h ++ (l ++ l'))
theorem IndexFunc_loop {h : Hp} {fv : AV} {v : RV} {xs : List Int} {p : Int → Bool} (hv : IsInts v xs) (ha : Asks slices_IndexFunc_int_G h fv xs p) (k M : Nat) : ∀ (m i N : Nat) (l : Hp), i + m = xs.length → m < N →
    ∃ l', slices_IndexFunc_int_l52 k N M (.rv v) fv xs.length i (h ++ l) = some (.ret (ai (match (xs.drop i).findIdx? p with | some j => ((i + j : Nat) : Int) | none => -1)), h ++ (l ++ l')) := by
  intro m
  induction m with
  | zero =>
    intro i N l hi hN
    obtain ⟨N, rfl⟩ : ∃ N', N = N' + 1 := ⟨N - 1, by omega⟩
    rw [slices_IndexFunc_int_l52_eq, bsp_not (decide_eq_false (by omega)), slices_IndexFunc_int_p7_eq, List.drop_eq_nil_of_le (by omega)]
    exact ⟨[], by simp⟩
  | succ m ih =>
    intro i N l hi hN
    obtain ⟨N, rfl⟩ : ∃ N', N = N' + 1 := ⟨N - 1, by omega⟩
    have hlt : i < xs.length := by omega
    have hs := hv.short
    obtain ⟨l1, h1⟩ := ha xs[i] (List.getElem_mem hlt) l
    rw [slices_IndexFunc_int_l52_eq, bsp_of (decide_eq_true (by omega)), hv.at hlt, h1, asBool_b, wri_succ (by omega), List.drop_eq_getElem_cons hlt, List.findIdx?_cons]
    cases e : p xs[i] with
    | true => exact ⟨l1, by rw [bsp_of rfl]; simp⟩
    | false =>
      obtain ⟨l2, h2⟩ := ih (i + 1) N (l ++ l1) (by omega) (by omega)
      refine ⟨l1 ++ l2, ?_⟩
      rw [bsp_not rfl, h2]
      cases (xs.drop (i + 1)).findIdx? p with
      | none => simp
      | some j => simp; omega
theorem ContainsFunc_spec {h : Hp} {fv : AV} {v : RV} {xs : List Int} {p : Int → Bool} (hv : IsInts v xs) (ha : Asks slices_IndexFunc_int_G h fv xs p) : ∃ l, G_slices_ContainsFunc_int [.rv v, fv] h = some (.ret (ab (xs.any p)), h ++ l) := by
  have hs := hv.short
  obtain ⟨l, hl⟩ := IndexFunc_loop hv ha big h.length xs.length 0 big [] (by omega) (by rw [big_val]; omega)
  refine ⟨l, ?_⟩
  have h1 : G_slices_IndexFunc_int [.rv v, fv] h = some (.ret (ai (match xs.findIdx? p with | some j => (j : Int) | none => -1)), h ++ l) := by
    unfold G_slices_IndexFunc_int
    rw [slices_IndexFunc_int_eq, hv.len, show ((0 : Int)) = ((0 : Nat) : Int) from rfl]
    simpa using hl
  unfold G_slices_ContainsFunc_int
  rw [slices_ContainsFunc_int_eq, callG_ret h1, asInt_i]
  cases e : xs.findIdx? p with
  | none =>
    have : xs.any p = false := by simpa [List.findIdx?_eq_none_iff] using e
    rw [this]; rfl
  | some j =>
    have : xs.any p = true := by
      have := List.findIdx?_eq_some_iff_getElem.1 e
      obtain ⟨h1, h2, _⟩ := this
      exact List.any_eq_true.2 ⟨xs[j], List.getElem_mem h1, h2⟩
    rw [this]
    simp
theorem all_spec {h : Hp} {fv : AV} {v : RV} {xs : List Int} {p : Int → Bool} (hv : IsInts v xs) (h1 : vcells fv = some [fv]) (ha : Asks ssa_all_c1_G h fv xs p) : ∃ l, G_ssa_all [.rv v, fv] h = some (.ret (ab (xs.all p)), h ++ l) := by
  have ha' : Asks slices_IndexFunc_int_G (h ++ [⟨0, 1, [fv]⟩]) (.func id_ssa_all_c1 [] [.ptr h.length 0 0]) xs (fun n => !p n) := by
    intro n hn l
    obtain ⟨l', hl⟩ := ha n hn (⟨0, 1, [fv]⟩ :: l)
    refine ⟨l', fun R K Kp => callV_gen rfl ?_ K Kp⟩
    unfold G_ssa_all_c1
    rw [List.nil_append, List.singleton_append, ssa_all_c1_eq, ldv_at (get_old (get_new _) l) rfl, List.append_assoc, List.singleton_append, hl, asBool_b]
    simp
  obtain ⟨l, hl⟩ := ContainsFunc_spec hv ha'
  refine ⟨[⟨0, 1, [fv]⟩] ++ l, ?_⟩
  unfold G_ssa_all
  rw [ssa_all_eq, h1]
  simp only [nwc]
  rw [callG_ret hl, asBool_b]
  have : (xs.any fun n => !p n) = !(xs.all p) := by simp [List.all_eq_not_any_not]
  rw [this]
  simp
theorem asks_isBlock {ok e : Nat} {cells : List AV} {h : Hp} {bs : List Blk} {b : RV} (ho : h[ok]? = some ⟨0, e, cells⟩) (hc : cells[5]? = some (.rv b)) (hb : IsRows 6 IsBlk b bs) (xs : List Int) :
    Asks ssa_all_c1_G h (.func id_ssa_checker_isBlock [.ptr ok 0 0] []) xs (isBlkN bs) := fun n hn l =>
  ⟨[], fun R K Kp => callV_gen rfl (by rw [List.append_nil, List.append_nil]; exact isBlock_spec (get_old ho l) hc hb n) K Kp⟩
end Go.Proofs.Ytknphnmhjmejaaa
/-  What the program's look at the form of blocks tells. No conditions. -/
namespace Go.Proofs.Ytknphnmhjmejaaa
set_option linter.unusedVariables false
abbrev blkCells (b : Blk) (a p s t : RV) : List AV := [.rv (I b.kind), .rv (I b.n), .rv a, .rv p, .rv s, .rv t]
/-- A block that is copied into a variable. -/
theorem blk_copy {b : RV} {bs : List Blk} (hb : IsRows 6 IsBlk b bs) {i : Nat} (hi : i < bs.length) : ∃ a p s t, IsInts a bs[i].args ∧ IsInts p bs[i].preds ∧ IsInts s bs[i].succs ∧ IsInts t bs[i].list ∧
    ∀ {R : Type} (h : Hp) (K : AV → Hp → Option R), (ixa 6 (.rv b) i fun q => ldg 6 h q fun v => nwc 1 (some [.rv (.int .i64 0), .rv (.int .i64 0), .rv .nils, .rv .nils, .rv .nils, .rv .nils]) h fun q2 h2 => stv 6 h2 q2 v fun h3 => K q2 h3) =
      K (.ptr h.length 0 0) (h ++ [⟨0, 1, blkCells bs[i] a p s t⟩]) := by
  have h0 : ∃ a p s t rest, IsInts a bs[i].args ∧ IsInts p bs[i].preds ∧ IsInts s bs[i].succs ∧ IsInts t bs[i].list ∧ ∀ (R : Type) (K : AV → Option R), ixa 6 (.rv b) i K = K (.rv (.rop (I bs[i].kind :: I bs[i].n :: a :: p :: s :: t :: rest))) := by
    cases hb with
    | nil => simp at hi
    | mk r hl =>
      obtain ⟨c, rest, h1, h2, ⟨a, p, s, t, rfl, k1, k2, k3, k4⟩⟩ := r.at hi
      refine ⟨a, p, s, t, rest, k1, k2, k3, k4, fun R K => ?_⟩
      have : ((i : Int) < bs.length) := by omega
      simp [ixa, hi, h1]
  obtain ⟨a, p, s, t, rest, k1, k2, k3, k4, hx⟩ := h0
  refine ⟨a, p, s, t, k1, k2, k3, k4, fun h K => ?_⟩
  rw [hx, ldg6, var_agg (n := 6) (by rfl) (by rfl) (by simp [k1.one, k2.one, k3.one, k4.one, oneI])]
/-- A check's end: some new variables, and an error thrown or none. -/
def Ends (ok : Bool) (e : Int) (h : Hp) (o : Option (ARes × Hp)) : Prop := ∃ l, o = some (if ok then .ret undefA else .pan (.rv (errA e)), h ++ l)
theorem Ends.ret {e : Int} {h : Hp} {l : Hp} {b : Bool} (hb : b = true) : Ends b e h (some (.ret undefA, h ++ l)) := ⟨l, by rw [hb]; rfl⟩
theorem Ends.pan {e : Int} {h : Hp} {l : Hp} {b : Bool} (hb : b = false) : Ends b e h (some (.pan (.rv (errA e)), h ++ l)) := ⟨l, by rw [hb]; rfl⟩
def shpOk (bs : List Blk) (b : Blk) : Bool := decide (0 ≤ b.kind ∧ b.kind ≤ 4) && (b.kind != 0 || (b.preds.length + b.succs.length == 0)) && okNums bs b.preds && okNums bs b.succs
theorem shpOk_eq (bs : List Blk) (b : Blk) : shpOk bs b = blkOk bs b := by
  unfold shpOk blkOk
  by_cases h0 : b.kind = 0
  · rw [if_pos h0]
    cases h1 : b.preds with
    | nil => cases h2 : b.succs <;> simp [h0, okNums]
    | cons x l => simp [h0]
  · rw [if_neg h0]
    have : decide (0 ≤ b.kind ∧ b.kind ≤ 4) = decide (0 ≤ succsOf b.kind) := by
      unfold succsOf
      by_cases e1 : b.kind = 1
      · simp [e1]
      by_cases e2 : b.kind = 2
      · simp [e2]
      by_cases e3 : b.kind = 3
      · simp [e3]
      by_cases e4 : b.kind = 4
      · simp [e4]
      · simp [e1, e2, e3, e4]; omega
    rw [this]
    have e : (b.kind != 0) = true := by simpa using h0
    rw [e]
    simp
section
variable {ok : Nat} {cells : List AV} {b : RV} {bs : List Blk}
theorem shape_loop (hc : cells[5]? = some (.rv b)) (hb : IsRows 6 IsBlk b bs) (h : Hp) (ho : h[ok]? = some ⟨0, 1, cells⟩) (k M : Nat) : ∀ (m i N : Nat) (l : Hp), i + m = bs.length → m < N →
    Ends ((bs.drop i).all (shpOk bs)) 130 h (ssa_checker_shape_l28 k N M (.ptr ok 0 0) (.rv b) bs.length i (h ++ l)) := by
  have hs := hb.short
  intro m
  induction m with
  | zero =>
    intro i N l hi hN
    obtain ⟨N, rfl⟩ : ∃ N', N = N' + 1 := ⟨N - 1, by omega⟩
    rw [ssa_checker_shape_l28_eq, bsp_not (decide_eq_false (by omega)), List.drop_eq_nil_of_le (by omega)]
    exact .ret rfl
  | succ m ih =>
    intro i N l hi hN
    obtain ⟨N, rfl⟩ : ∃ N', N = N' + 1 := ⟨N - 1, by omega⟩
    have hlt : i < bs.length := by omega
    obtain ⟨a, p, s, t, k1, k2, k3, k4, hcp⟩ := blk_copy hb hlt
    have hs2 := k2.short
    have hs3 := k3.short
    rw [ssa_checker_shape_l28_eq, bsp_of (decide_eq_true (by omega)), hcp, List.drop_eq_getElem_cons hlt, List.all_cons]
    have hq := get_new (h := h ++ l) ⟨0, 1, blkCells bs[i] a p s t⟩
    have hlen : h.length + l.length = (h ++ l).length := by simp
    generalize hqq : (h ++ l).length = q at hq
    generalize hl1 : l ++ [(⟨0, 1, blkCells bs[i] a p s t⟩ : Ob)] = l1
    have e1 : h ++ l ++ [(⟨0, 1, blkCells bs[i] a p s t⟩ : Ob)] = h ++ l1 := by rw [← hl1, List.append_assoc]
    rw [e1] at hq ⊢
    have hq' : ∀ l2, (h ++ (l1 ++ l2))[q]? = some ⟨0, 1, blkCells bs[i] a p s t⟩ := fun l2 => by rw [← List.append_assoc]; exact get_old hq l2
    have ho' : ∀ l2, (h ++ l2)[ok]? = some ⟨0, 1, cells⟩ := fun l2 => get_old ho l2
    have last : ∀ l2, okNums bs bs[i].preds = true → okNums bs bs[i].succs = true → decide (0 ≤ bs[i].kind ∧ bs[i].kind ≤ 4) = true → (bs[i].kind != 0 || (bs[i].preds.length + bs[i].succs.length == 0)) = true →
        Ends (shpOk bs bs[i] && (bs.drop (i + 1)).all (shpOk bs)) 130 h (ssa_checker_shape_p231 k N M (.ptr ok 0 0) (.rv b) bs.length i (h ++ l2)) := by
      intro l2 g1 g2 g3 g4
      have : shpOk bs bs[i] = true := by unfold shpOk; rw [g1, g2, g3, g4]; rfl
      rw [this, Bool.true_and, ssa_checker_shape_p231_eq, wri_succ (by omega)]
      exact ih (i + 1) N l2 (by omega) (by omega)
    have third : decide (0 ≤ bs[i].kind ∧ bs[i].kind ≤ 4) = true → (bs[i].kind != 0 || (bs[i].preds.length + bs[i].succs.length == 0)) = true →
        Ends (shpOk bs bs[i] && (bs.drop (i + 1)).all (shpOk bs)) 130 h (ssa_checker_shape_p3687 k N M (.ptr ok 0 0) (.ptr q 0 0) (.rv b) bs.length i (h ++ l1)) := by
      intro g3 g4
      obtain ⟨l2, hl2⟩ := all_spec (h := h ++ l1) k2 rfl (asks_isBlock (ho' l1) hc hb bs[i].preds)
      rw [ssa_checker_shape_p3687_eq, pad_ptr, ldv_at hq rfl, callG_ret hl2, asBool_b, ← okNums_eq, List.append_assoc]
      cases g1 : okNums bs bs[i].preds with
      | false =>
        rw [bsp_not rfl, must_call, if_neg (by simp)]
        exact .pan (by unfold shpOk; rw [g1]; simp)
      | true =>
        obtain ⟨l3, hl3⟩ := all_spec (h := h ++ (l1 ++ l2)) k3 rfl (asks_isBlock (ho' _) hc hb bs[i].succs)
        rw [bsp_of rfl, pad_ptr, ldv_at (hq' l2) rfl, callG_ret hl3, asBool_b, ← okNums_eq, must_call, List.append_assoc]
        cases g2 : okNums bs bs[i].succs with
        | false => exact .pan (by unfold shpOk; rw [g2]; simp)
        | true => exact last _ g1 g2 g3 g4
    have second : decide (0 ≤ bs[i].kind ∧ bs[i].kind ≤ 4) = true →
        Ends (shpOk bs bs[i] && (bs.drop (i + 1)).all (shpOk bs)) 130 h (ssa_checker_shape_p1843 k N M (.ptr ok 0 0) (.ptr q 0 0) (.rv b) bs.length i (h ++ l1)) := by
      intro g3
      rw [ssa_checker_shape_p1843_eq, pad_ptr, ldi_at hq rfl]
      by_cases h0 : bs[i].kind = 0
      · rw [bsp_not (by simpa using h0), pad_ptr, ldv_at hq rfl, k2.len, pad_ptr, ldv_at hq rfl, k3.len, must_call, wri_small (n := (bs[i].preds.length : Int) + bs[i].succs.length) (by omega) (by omega)]
        have e : (((bs[i].preds.length : Int) + bs[i].succs.length) == 0) = (bs[i].preds.length + bs[i].succs.length == 0) := by
          rw [Bool.eq_iff_iff, beq_iff_eq, beq_iff_eq]; omega
        rw [e]
        cases g4 : (bs[i].preds.length + bs[i].succs.length == 0) with
        | false => exact .pan (by unfold shpOk; rw [g4]; simp [h0])
        | true => exact third g3 (by rw [g4]; simp)
      · rw [bsp_of (by simpa using h0), must_call, if_pos rfl]
        exact third g3 (by simp [h0])
    rw [pad_ptr, ldi_at hq rfl]
    by_cases g : 0 ≤ bs[i].kind
    · rw [bsp_of (decide_eq_true g), pad_ptr, ldi_at hq rfl, must_call]
      by_cases g5 : bs[i].kind ≤ 4
      · rw [if_pos (decide_eq_true g5)]
        exact second (decide_eq_true ⟨g, g5⟩)
      · rw [if_neg (by simpa using g5)]
        exact .pan (by unfold shpOk; rw [decide_eq_false (fun h => g5 h.2)]; rfl)
    · rw [bsp_not (decide_eq_false g), must_call, if_neg (by simp)]
      exact .pan (by unfold shpOk; rw [decide_eq_false (fun h => g h.1)]; rfl)
theorem shape_spec (hc : cells[5]? = some (.rv b)) (hb : IsRows 6 IsBlk b bs) (h : Hp) (ho : h[ok]? = some ⟨0, 1, cells⟩) : Ends (formOk bs) 130 h (G_ssa_checker_shape [.ptr ok 0 0] h) := by
  have hs := hb.short
  have fin : ∀ x : Bool, formOk bs = false → Ends (formOk bs) 130 h (some (.pan (.rv (errA 130)), h)) := fun _ hf => by
    have := Ends.pan (e := 130) (h := h) (l := []) hf
    simpa using this
  unfold G_ssa_checker_shape
  rw [ssa_checker_shape_eq, nck_ptr, pad_ptr, pad_ptr, ldv_at ho hc, hb.len]
  by_cases h0 : bs.length = 0
  · rw [bsp_not (decide_eq_false (by omega)), must_call, if_neg (by simp)]
    exact fin true (by simp [formOk, h0])
  · rw [bsp_of (decide_eq_true (by omega)), nck_ptr, pad_ptr, pad_ptr, ldv_at ho hc, hb.len, must_call]
    by_cases h1 : bs.length ≤ 4096
    · have := shape_loop hc hb h ho big h.length bs.length 0 big [] (by omega) (by rw [big_val]; omega)
      have e : formOk bs = bs.all (shpOk bs) := by
        have e1 : bs.all (shpOk bs) = bs.all (blkOk bs) := by congr 1; funext x; exact shpOk_eq bs x
        rw [e1]
        unfold formOk
        rw [decide_eq_true (show 0 < bs.length ∧ bs.length ≤ 4096 by omega)]
        rfl
      rw [if_pos (decide_eq_true (by omega)), ssa_checker_shape_p3_eq, nck_ptr, pad_ptr, pad_ptr, ldv_at ho hc, hb.len, e, show ((0 : Int)) = ((0 : Nat) : Int) from rfl]
      simpa using this
    · rw [if_neg (by simp; omega)]
      exact fin true (by simp [formOk]; intro _ h; omega)
end
end Go.Proofs.Ytknphnmhjmejaaa
/-  Depth first: plain. No conditions. -/
namespace Go.Proofs.Ytknphnmhjmejaaa
set_option linter.unusedVariables false
/-- What is reached by ways of any length. -/
inductive Way (sc : Nat → List Nat) : Nat → Nat → Prop
  | refl (x : Nat) : Way sc x x
  | step {x y z : Nat} (h : Way sc x y) (e : z ∈ sc y) : Way sc x z
theorem Way.trans {sc : Nat → List Nat} {x y z : Nat} (h : Way sc x y) (k : Way sc y z) : Way sc x z := by
  induction k with
  | refl => exact h
  | step _ e ih => exact .step ih e
theorem Way.head {sc : Nat → List Nat} {x y z : Nat} (e : y ∈ sc x) (k : Way sc y z) : Way sc x z := (Way.step (.refl x) e).trans k
/-- Looking at a list of blocks, one by one: those not seen yet are gone into. First what was seen, in its order, and what is done with. -/
inductive Dfs (sc : Nat → List Nat) : List Nat → List Nat → List Nat → List Nat → List Nat → Prop
  | nil (S P : List Nat) : Dfs sc [] S P S P
  | seen {s : Nat} {ss S P S' P' : List Nat} (h : s ∈ S) (r : Dfs sc ss S P S' P') : Dfs sc (s :: ss) S P S' P'
  | go {s : Nat} {ss S P S1 P1 S' P' : List Nat} (h : s ∉ S) (r1 : Dfs sc (sc s) (S ++ [s]) P S1 P1) (r2 : Dfs sc ss S1 (P1 ++ [s]) S' P') : Dfs sc (s :: ss) S P S' P'
section
variable {sc : Nat → List Nat}
theorem Dfs.det {l S P S1 P1 : List Nat} (h : Dfs sc l S P S1 P1) : ∀ {S2 P2 : List Nat}, Dfs sc l S P S2 P2 → S1 = S2 ∧ P1 = P2 := by
  induction h with
  | nil => intro S2 P2 k; cases k; exact ⟨rfl, rfl⟩
  | seen h r ih =>
    intro S2 P2 k
    cases k with
    | seen _ r2 => exact ih r2
    | go h2 _ _ => exact absurd h h2
  | go h r1 r2 ih1 ih2 =>
    intro S2 P2 k
    cases k with
    | seen h2 _ => exact absurd h2 h
    | go _ k1 k2 =>
      obtain ⟨rfl, rfl⟩ := ih1 k1
      exact ih2 k2
/-- What was found and what is done with are alike; ways on; from where each was come to. -/
structure Found (sc : Nat → List Nat) (l S P S' P' N Q : List Nat) : Prop where
  s : S' = S ++ N
  p : P' = P ++ Q
  mem : ∀ x, x ∈ N ↔ x ∈ Q
  nd : S.Nodup → S'.Nodup
  qd : Q.Nodup
  len : Q.length = N.length
  cl : ∀ x ∈ Q, ∀ y ∈ sc x, y ∈ S'
  ll : ∀ y ∈ l, y ∈ S'
  rc : ∀ x ∈ N, ∃ y ∈ l, Way sc y x
  back : ∀ Q1 Q2 x, Q = Q1 ++ x :: Q2 → ∀ y ∈ sc x, y ∈ Q2 → Way sc y x
  from_ : ∀ Q1 Q2 x, Q = Q1 ++ x :: Q2 → x ∈ l ∨ ∃ t ∈ Q2, x ∈ sc t
  out : ∀ x ∈ N, x ∉ S
theorem split_of {α : Type} {A B C D : List α} {x : α} (h : A ++ B = C ++ x :: D) : (∃ E, A = C ++ x :: E ∧ D = E ++ B) ∨ (∃ E, B = E ++ x :: D ∧ C = A ++ E) := by
  rcases List.append_eq_append_iff.1 h with ⟨E, h1, h2⟩ | ⟨E, h1, h2⟩
  · exact .inr ⟨E, h2, h1⟩
  · cases E with
    | nil => simp at h1 h2; exact .inr ⟨[], by simp [h2], by simp [h1]⟩
    | cons e E =>
      simp only [List.cons_append, List.cons.injEq] at h2
      obtain ⟨rfl, rfl⟩ := h2
      exact .inl ⟨E, h1, rfl⟩
theorem Dfs.found {l S P S' P' : List Nat} (h : Dfs sc l S P S' P') : ∃ N Q, Found sc l S P S' P' N Q := by
  induction h with
  | nil S P => exact ⟨[], [], by simp, by simp, by simp, id, by simp, rfl, by simp, by simp, by simp, by simp, by simp, by simp⟩
  | @seen s ss S P S' P' h r ih =>
    obtain ⟨N, Q, k⟩ := ih
    refine ⟨N, Q, k.s, k.p, k.mem, k.nd, k.qd, k.len, k.cl, ?_, ?_, k.back, ?_, k.out⟩
    · intro y hy
      rcases List.mem_cons.1 hy with rfl | hy
      · rw [k.s]; exact List.mem_append.2 (.inl h)
      · exact k.ll y hy
    · intro x hx
      obtain ⟨y, hy, w⟩ := k.rc x hx
      exact ⟨y, List.mem_cons_of_mem _ hy, w⟩
    · intro Q1 Q2 x e
      rcases k.from_ Q1 Q2 x e with h | h
      · exact .inl (List.mem_cons_of_mem _ h)
      · exact .inr h
  | @go s ss S P S1 P1 S' P' h r1 r2 ih1 ih2 =>
    obtain ⟨N1, Q1, k1⟩ := ih1
    obtain ⟨N2, Q2, k2⟩ := ih2
    have sub : ∀ x, x ∈ S1 → x ∈ S' := fun x hx => by rw [k2.s]; exact List.mem_append.2 (.inl hx)
    have s1 : s ∈ S1 := by rw [k1.s]; simp
    have no2 : ∀ x, x ∈ S1 → x ∉ Q2 := fun x hx hq => k2.out x ((k2.mem x).2 hq) hx
    have q1s : ∀ x, x ∈ Q1 → x ∈ S1 := fun x hx => by rw [k1.s]; exact List.mem_append.2 (.inr ((k1.mem x).2 hx))
    have sq1 : s ∉ Q1 := fun hq => k1.out s ((k1.mem s).2 hq) (by simp)
    refine ⟨[s] ++ N1 ++ N2, Q1 ++ [s] ++ Q2, ?_, ?_, ?_, ?_, ?_, ?_, ?_, ?_, ?_, ?_, ?_, ?_⟩
    · rw [k2.s, k1.s]; simp
    · rw [k2.p, k1.p]; simp
    · intro x
      simp only [List.mem_append, List.mem_singleton, k1.mem, k2.mem]
      constructor
      · rintro ((h | h) | h)
        · exact .inl (.inr h)
        · exact .inl (.inl h)
        · exact .inr h
      · rintro ((h | h) | h)
        · exact .inl (.inr h)
        · exact .inl (.inl h)
        · exact .inr h
    · intro hn
      refine k2.nd (k1.nd ?_)
      rw [List.nodup_append]
      refine ⟨hn, by simp, ?_⟩
      intro a ha b hb e
      simp at hb
      subst hb; subst e
      exact h ha
    · rw [List.nodup_append]
      refine ⟨?_, k2.qd, ?_⟩
      · rw [List.nodup_append]
        refine ⟨k1.qd, by simp, ?_⟩
        intro a ha b hb e
        simp at hb
        subst hb; subst e
        exact sq1 ha
      · intro a ha b hb e
        subst e
        refine no2 a ?_ hb
        rcases List.mem_append.1 ha with ha | ha
        · exact q1s a ha
        · simp at ha; subst ha; exact s1
    · simp [k1.len, k2.len]; omega
    · intro x hx y hy
      rcases List.mem_append.1 hx with hx | hx
      · rcases List.mem_append.1 hx with hx | hx
        · exact sub y (k1.cl x hx y hy)
        · simp at hx; subst hx; exact sub y (k1.ll y hy)
      · exact k2.cl x hx y hy
    · intro y hy
      rcases List.mem_cons.1 hy with rfl | hy
      · exact sub y s1
      · exact k2.ll y hy
    · intro x hx
      rcases List.mem_append.1 hx with hx | hx
      · rcases List.mem_append.1 hx with hx | hx
        · simp at hx; subst hx; exact ⟨x, by simp, .refl x⟩
        · obtain ⟨y, hy, w⟩ := k1.rc x hx
          exact ⟨s, by simp, .head hy w⟩
      · obtain ⟨y, hy, w⟩ := k2.rc x hx
        exact ⟨y, List.mem_cons_of_mem _ hy, w⟩
    · intro A B x e y hy hB
      rcases split_of e with ⟨E, e1, rfl⟩ | ⟨E, e1, rfl⟩
      · rcases split_of e1 with ⟨F, e2, rfl⟩ | ⟨F, e2, rfl⟩
        · rcases List.mem_append.1 hB with hB | hB
          · rcases List.mem_append.1 hB with hB | hB
            · exact k1.back _ _ x e2 y hy hB
            · simp at hB
              subst hB
              have hx : x ∈ N1 := (k1.mem x).2 (by rw [e2]; simp)
              obtain ⟨z, hz, w⟩ := k1.rc x hx
              exact .head hz w
          · exact absurd hB (no2 y (k1.cl x (by rw [e2]; simp) y hy))
        · cases F with
          | nil =>
            simp at e2
            obtain ⟨rfl, rfl⟩ := e2
            simp at hB
            exact absurd hB (no2 y (k1.ll y hy))
          | cons f F => simp at e2
      · exact k2.back _ _ x e1 y hy hB
    · intro A B x e
      rcases split_of e with ⟨E, e1, rfl⟩ | ⟨E, e1, rfl⟩
      · rcases split_of e1 with ⟨F, e2, rfl⟩ | ⟨F, e2, rfl⟩
        · rcases k1.from_ _ _ x e2 with h | ⟨t, ht, hx⟩
          · exact .inr ⟨s, by simp, h⟩
          · exact .inr ⟨t, by simp [ht], hx⟩
        · cases F with
          | nil =>
            simp at e2
            obtain ⟨rfl, rfl⟩ := e2
            exact .inl (by simp)
          | cons f F => simp at e2
      · rcases k2.from_ _ _ x e1 with h | ⟨t, ht, hx⟩
        · exact .inl (List.mem_cons_of_mem _ h)
        · exact .inr ⟨t, ht, hx⟩
    · intro x hx
      rcases List.mem_append.1 hx with hx | hx
      · rcases List.mem_append.1 hx with hx | hx
        · simp at hx; subst hx; exact h
        · intro hs
          exact k1.out x hx (by simp [hs])
      · intro hs
        exact k2.out x hx (by rw [k1.s]; simp [hs])
theorem nodup_le : ∀ (n : Nat) (l : List Nat), l.Nodup → (∀ x ∈ l, x < n) → l.length ≤ n
  | 0, [], _, _ => Nat.le_refl _
  | 0, x :: l, _, h => absurd (h x (by simp)) (by omega)
  | n + 1, l, hd, h => by
    have ih := nodup_le n (l.erase n) (hd.erase n) fun x hx => by
      have h1 := (hd.mem_erase_iff).1 hx
      have := h x h1.2
      omega
    have := List.length_erase (a := n) (l := l)
    split at this <;> omega
theorem Way.lt {n : Nat} (hn : ∀ x < n, ∀ y ∈ sc x, y < n) {x y : Nat} (w : Way sc x y) (hx : x < n) : y < n := by
  induction w with
  | refl => exact hx
  | step _ e ih => exact hn _ ih _ e
/-- There is always an answer. -/
theorem Dfs.total {n : Nat} (hn : ∀ x < n, ∀ y ∈ sc x, y < n) : ∀ (m : Nat) (l S P : List Nat), n - S.length ≤ m → S.Nodup → (∀ x ∈ S, x < n) → (∀ x ∈ l, x < n) → ∃ S' P', Dfs sc l S P S' P' := by
  intro m
  induction m with
  | zero =>
    intro l
    induction l with
    | nil => intro S P _ _ _ _; exact ⟨S, P, .nil S P⟩
    | cons s ss ih =>
      intro S P hm hd hs hl
      have hin : s ∈ S := by
        apply Classical.byContradiction
        intro hno
        have : (s :: S).length ≤ n := by
          refine nodup_le n _ (List.nodup_cons.2 ⟨hno, hd⟩) ?_
          intro x hx
          rcases List.mem_cons.1 hx with rfl | hx
          · exact hl _ (by simp)
          · exact hs x hx
        simp at this
        omega
      obtain ⟨S', P', r⟩ := ih S P hm hd hs fun x hx => hl x (List.mem_cons_of_mem _ hx)
      exact ⟨S', P', .seen hin r⟩
  | succ m ihm =>
    intro l
    induction l with
    | nil => intro S P _ _ _ _; exact ⟨S, P, .nil S P⟩
    | cons s ss ih =>
      intro S P hm hd hs hl
      have hl' : ∀ x ∈ ss, x < n := fun x hx => hl x (List.mem_cons_of_mem _ hx)
      by_cases hin : s ∈ S
      · obtain ⟨S', P', r⟩ := ih S P hm hd hs hl'
        exact ⟨S', P', .seen hin r⟩
      · have hsn : s < n := hl s (by simp)
        have hs1 : ∀ x ∈ S ++ [s], x < n := fun x hx => by
          rcases List.mem_append.1 hx with hx | hx
          · exact hs x hx
          · simp at hx; subst hx; exact hsn
        have hd1 : (S ++ [s]).Nodup := by
          rw [List.nodup_append]
          refine ⟨hd, by simp, ?_⟩
          intro a ha b hb e
          simp at hb
          subst hb; subst e
          exact hin ha
        obtain ⟨S1, P1, r1⟩ := ihm (sc s) (S ++ [s]) P (by simp; omega) hd1 hs1 (hn s hsn)
        obtain ⟨N, Q, k⟩ := r1.found
        have h1 : ∀ x ∈ S1, x < n := by
          intro x hx
          rw [k.s] at hx
          rcases List.mem_append.1 hx with hx | hx
          · exact hs1 x hx
          · obtain ⟨y, hy, w⟩ := k.rc x hx
            exact w.lt hn (hn s hsn y hy)
        obtain ⟨S', P', r2⟩ := ih S1 (P1 ++ [s]) (by rw [k.s]; simp; omega) (k.nd hd1) h1 hl'
        exact ⟨S', P', .go hin r1 r2⟩
end
end Go.Proofs.Ytknphnmhjmejaaa
