/- Joined texts: Ea, Ec, Ed, Ee, Ef. No conditions but those of each. -/
import Derived.Test.YtknphnmhjmejaaaJ13
import Derived.Test.YtknphnmhjmejaaaJ14
/-  Dominance by intervals, as the program asks it; a search in a sorted list; how deep a loop is. No conditions. -/
namespace Go.Proofs.Ytknphnmhjmejaaa
set_option linter.unusedVariables false
/-- Numbers of blocks, as a list. -/
def tl (f : Nat → Nat) (n : Nat) : List Int := (List.range n).map fun x => (f x : Int)
theorem tl_len (f : Nat → Nat) (n : Nat) : (tl f n).length = n := by simp [tl]
theorem tl_at {f : Nat → Nat} {n x : Nat} (hx : x < n) : ((tl f n).map ai)[x]? = some (ai (f x : Nat)) := by simp [tl, hx]
theorem tl_set {f : Nat → Nat} {n x c : Nat} (hx : x < n) : ((tl f n).map ai).set x (ai (c : Nat)) = (tl (put f x c) n).map ai := by
  apply List.ext_getElem?
  intro i
  by_cases hi : i < n
  · rw [tl_at hi, List.getElem?_set]
    by_cases e : x = i
    · subst e
      rw [if_pos rfl, if_pos (by simp [tl_len, hx]), put_same]
    · rw [if_neg e, tl_at hi, put_ne (fun h => e h.symm)]
  · rw [List.getElem?_eq_none (by simp [tl_len]; omega), List.getElem?_eq_none (by simp [tl_len]; omega)]
structure TreeAt (par : Par) (P : List Nat) (n : Nat) (h : Hp) (to oi oo : Nat) (i o : Nat → Nat) : Prop where
  t : h[to]? = some ⟨0, 1, [.sl oi 0 0 n, .sl oo 0 0 n]⟩
  oi : h[oi]? = some ⟨0, 1, (tl i n).map ai⟩
  oo : h[oo]? = some ⟨0, 1, (tl o n).map ai⟩
  anc : ∀ x y, x ∈ P → y ∈ P → ((i x ≤ i y ∧ o y ≤ o x) ↔ Anc par y x)
  lt : ∀ x ∈ P, x < n
section
variable {par : Par} {P : List Nat} {n : Nat} {h h' : Hp} {to oi oo : Nat} {i o : Nat → Nat}
theorem TreeAt.mono (k : TreeAt par P n h to oi oo i o) (hk : ∀ q, q = to ∨ q = oi ∨ q = oo → h'[q]? = h[q]?) : TreeAt par P n h' to oi oo i o :=
  ⟨by rw [hk _ (.inl rfl)]; exact k.t, by rw [hk _ (.inr (.inl rfl))]; exact k.oi, by rw [hk _ (.inr (.inr rfl))]; exact k.oo, k.anc, k.lt⟩
theorem TreeAt.app (k : TreeAt par P n h to oi oo i o) (l : Hp) : TreeAt par P n (h ++ l) to oi oo i o :=
  ⟨get_old k.t l, get_old k.oi l, get_old k.oo l, k.anc, k.lt⟩
open Classical in
theorem Over_spec (k : TreeAt par P n h to oi oo i o) {x y : Nat} (hx : x ∈ P) (hy : y ∈ P) : G_ssa_Tree_Over [.ptr to 0 0, ai x, ai y] h = some (.ret (ab (decide (Anc par y x))), h) := by
  have hxn := k.lt x hx
  have hyn := k.lt y hy
  have ha := k.anc x y hx hy
  unfold G_ssa_Tree_Over
  rw [ssa_Tree_Over_eq, nck_ptr, pad_ptr, ldv_at k.t (x := .sl oi 0 0 n) rfl, sl_at hxn, ldi_at k.oi (tl_at hxn), nck_ptr, pad_ptr, ldv_at k.t (x := .sl oi 0 0 n) rfl, sl_at hyn, ldi_at k.oi (tl_at hyn)]
  by_cases h1 : i x ≤ i y
  · rw [bsp_of (decide_eq_true (by omega)), nck_ptr, pad_ptr, ldv_at k.t (x := .sl oo 0 0 n) rfl, sl_at hyn, ldi_at k.oo (tl_at hyn), nck_ptr, pad_ptr, ldv_at k.t (x := .sl oo 0 0 n) rfl, sl_at hxn, ldi_at k.oo (tl_at hxn), ssa_Tree_Over_p7_eq]
    have : decide ((o y : Int) ≤ (o x : Int)) = decide (Anc par y x) := by
      rw [Bool.eq_iff_iff, decide_eq_true_eq, decide_eq_true_eq, ← ha]
      omega
    rw [this]
  · rw [bsp_not (decide_eq_false (by omega)), ssa_Tree_Over_p7_eq]
    have : decide (Anc par y x) = false := by
      rw [decide_eq_false_iff_not, ← ha]
      omega
    rw [this]
open Classical in
theorem Over_asks (k : TreeAt par P n h to oi oo i o) {pt ph x : Nat} (h1 : h[pt]? = some ⟨0, 1, [.ptr to 0 0]⟩) (h2 : h[ph]? = some ⟨0, 1, [ai (x : Nat)]⟩) (hx : x ∈ P) {xs : List Int} (hxs : ∀ n ∈ xs, ∃ y : Nat, n = y ∧ y ∈ P) :
    Asks slices_IndexFunc_int_G h (.func id_flow_Loops_c1 [] [.ptr pt 0 0, .ptr ph 0 0]) xs (fun n => decide (Anc par n.toNat x)) := by
  intro m hm l
  obtain ⟨y, rfl, hy⟩ := hxs m hm
  refine ⟨[], fun R K Kp => ?_⟩
  have e : G_flow_Loops_c1 ([] ++ [ai (y : Nat)] ++ [.ptr pt 0 0, .ptr ph 0 0]) (h ++ l) = some (.ret (ab (decide (Anc par y x))), h ++ l) := by
    rw [List.nil_append, List.singleton_append]
    unfold G_flow_Loops_c1
    rw [flow_Loops_c1_eq, ldv_at (get_old h1 l) (x := .ptr to 0 0) rfl, ldi_at (get_old h2 l) (n := (x : Int)) rfl, callG_ret (Over_spec (k.app l) hx hy), asBool_b]
  rw [callV_gen (Γ := slices_IndexFunc_int_G) (f := id_flow_Loops_c1) (G := G_flow_Loops_c1) rfl e]
  simp
end
/-! ### A search in a sorted list -/
theorem mid_eq {a b : Nat} (h : a + b < 1000000000000) : wri .i64 (Int.fdiv (wri .u64 (wri .i64 ((a : Int) + (b : Int)))) (2 ^ 1)) = (((a + b) / 2 : Nat) : Int) := by
  have h1 : wri .i64 ((a : Int) + b) = ((a + b : Nat) : Int) := by rw [wri_small (by omega) (by omega)]; omega
  have h2 : wri .u64 ((a + b : Nat) : Int) = ((a + b : Nat) : Int) := by
    simp [wri, IntKind.wrap, IntKind.bits, IntKind.signed]
    omega
  have h3 : Int.fdiv ((a + b : Nat) : Int) (2 ^ 1) = (((a + b) / 2 : Nat) : Int) := by
    rw [Int.fdiv_eq_ediv_of_nonneg _ (by decide)]
    omega
  rw [h1, h2, h3, wri_small (by omega) (by omega)]
theorem isNaN_spec (n : Int) : F_cmp_isNaN_int [I n] = some (.ret (.bool false)) := by
  unfold F_cmp_isNaN_int
  rw [List.map_cons, List.map_nil, cmp_isNaN_int_eq]
  simp [pureR, toRV, depthA]
theorem isNaN_spec' (n : Int) : F_slices_isNaN_int [I n] = some (.ret (.bool false)) := by
  unfold F_slices_isNaN_int
  rw [List.map_cons, List.map_nil, slices_isNaN_int_eq]
  simp [pureR, toRV, depthA]
theorem Less_spec (a b : Int) : F_cmp_Less_int [I a, I b] = some (.ret (.bool (decide (a < b)))) := by
  unfold F_cmp_Less_int
  rw [List.map_cons, List.map_cons, List.map_nil, cmp_Less_int_eq, callP_ret (by simp [toRV, depthA]) (isNaN_spec a) (.inr rfl), asBool_b, bsp_not rfl, cmp_Less_int_p7_eq]
  simp [pureR, toRV, depthA]
theorem BS_loop {x : RV} {xs : List Int} (hx : IsInts x xs) (hs : xs.Pairwise (· < ·)) (v : Int) (k M : Nat) (h : Hp) : ∀ (w a b N : Nat), b - a ≤ w → w < N → a ≤ b → b ≤ xs.length → (∀ (i : Nat) (y : Int), i < a → xs[i]? = some y → y < v) → (∀ (i : Nat) (y : Int), b ≤ i → xs[i]? = some y → v ≤ y) →
    ∃ j, slices_BinarySearch_int_l120 k N M (.rv x) v (xs.length : Nat) a b h = some (.ret (.tuple [ai j, ab (decide (v ∈ xs))]), h) := by
  have hsh := hx.short
  have fin : ∀ (a N : Nat), 0 < N → a ≤ xs.length → (∀ (i : Nat) (y : Int), i < a → xs[i]? = some y → y < v) → (∀ (i : Nat) (y : Int), a ≤ i → xs[i]? = some y → v ≤ y) →
      ∃ j, slices_BinarySearch_int_l120 k N M (.rv x) v (xs.length : Nat) a a h = some (.ret (.tuple [ai j, ab (decide (v ∈ xs))]), h) := by
    intro a N hN ha hlo hhi
    obtain ⟨N, rfl⟩ : ∃ q, N = q + 1 := ⟨N - 1, by omega⟩
    refine ⟨a, ?_⟩
    rw [slices_BinarySearch_int_l120_eq, bsp_not (decide_eq_false (by omega)), slices_BinarySearch_int_p31_eq]
    by_cases hal : a < xs.length
    · have hget := List.getElem?_eq_getElem hal
      have hge := hhi a _ (Nat.le_refl _) hget
      rw [bsp_of (decide_eq_true (by omega)), hx.at hal]
      by_cases e : xs[a] = v
      · rw [bsp_of (by rw [e]; simp), slices_BinarySearch_int_p63_eq]
        have : decide (v ∈ xs) = true := by rw [decide_eq_true_eq, ← e]; exact List.getElem_mem hal
        rw [this]
      · have : decide (v ∈ xs) = false := by
          rw [decide_eq_false_iff_not]
          intro hm
          obtain ⟨t, ht, hte⟩ := List.getElem_of_mem hm
          have h1 : ¬ t < a := fun hlt => by
            have := hlo t _ hlt (List.getElem?_eq_getElem ht)
            omega
          rcases Nat.lt_or_ge a t with h2 | h2
          · have := List.pairwise_iff_getElem.1 hs a t hal ht h2
            omega
          · have : t = a := by omega
            subst this
            exact e hte
        rw [bsp_not (by simpa using e), hx.at hal, callP_ret (by simp [toRV, depthA]) (isNaN_spec' xs[a]) (.inr rfl), asBool_b, bsp_not rfl, slices_BinarySearch_int_p63_eq, this]
    · have : decide (v ∈ xs) = false := by
        rw [decide_eq_false_iff_not]
        intro hm
        obtain ⟨t, ht, hte⟩ := List.getElem_of_mem hm
        have := hlo t _ (by omega) (List.getElem?_eq_getElem ht)
        omega
      rw [bsp_not (decide_eq_false (by omega)), slices_BinarySearch_int_p63_eq, this]
  intro w
  induction w with
  | zero =>
    intro a b N hw hN hab hb hlo hhi
    obtain rfl : a = b := by omega
    exact fin a N hN hb hlo hhi
  | succ w ih =>
    intro a b N hw hN hab hb hlo hhi
    by_cases e : a = b
    · subst e
      exact fin a N (by omega) hb hlo hhi
    · obtain ⟨N, rfl⟩ : ∃ q, N = q + 1 := ⟨N - 1, by omega⟩
      have hml : (a + b) / 2 < xs.length := by omega
      rw [slices_BinarySearch_int_l120_eq, bsp_of (decide_eq_true (by omega)), mid_eq (by omega), hx.at hml, callP_ret (by simp [toRV, depthA]) (Less_spec xs[(a + b) / 2] v) (.inr rfl), asBool_b]
      by_cases hlt : xs[(a + b) / 2] < v
      · rw [bsp_of (decide_eq_true hlt), wri_succ (by omega)]
        refine ih ((a + b) / 2 + 1) b N (by omega) (by omega) (by omega) hb (fun i y hi hy => ?_) hhi
        have hil := (List.getElem?_eq_some_iff.1 hy).1
        have hye := (List.getElem?_eq_some_iff.1 hy).2
        rcases Nat.lt_or_ge i ((a + b) / 2) with h2 | h2
        · have := List.pairwise_iff_getElem.1 hs i _ hil hml h2
          omega
        · have : i = (a + b) / 2 := by omega
          subst this
          omega
      · rw [bsp_not (decide_eq_false hlt)]
        refine ih a ((a + b) / 2) N (by omega) (by omega) (by omega) (by omega) hlo (fun i y hi hy => ?_)
        have hil := (List.getElem?_eq_some_iff.1 hy).1
        have hye := (List.getElem?_eq_some_iff.1 hy).2
        rcases Nat.lt_or_ge ((a + b) / 2) i with h2 | h2
        · have := List.pairwise_iff_getElem.1 hs _ i hml hil h2
          omega
        · have : i = (a + b) / 2 := by omega
          subst this
          omega
theorem BinarySearch_spec {x : RV} {xs : List Int} (hx : IsInts x xs) (hs : xs.Pairwise (· < ·)) (v : Int) : ∃ j, F_slices_BinarySearch_int [x, I v] = some (.ret (.tuple [I j, .bool (decide (v ∈ xs))])) := by
  have hsh := hx.short
  obtain ⟨j, e⟩ := BS_loop hx hs v big ([] : Hp).length [] xs.length 0 xs.length big (by omega) (by rw [big_val]; omega) (by omega) (by omega) (fun i y h => by omega) (fun i y h hy => by have := (List.getElem?_eq_some_iff.1 hy).1; omega)
  refine ⟨j, ?_⟩
  unfold F_slices_BinarySearch_int
  rw [List.map_cons, List.map_cons, List.map_nil, slices_BinarySearch_int_eq, hx.len, show ((0 : Int)) = ((0 : Nat) : Int) from rfl, e]
  simp [pureR, toRV, depthA]
/-! ### How deep a loop is -/
/-- Outer ones: how many upwards, with itself. -/
inductive Deep (outs : Nat → Int) : Nat → Nat → Prop
  | top {i} (h : outs i = -1) : Deep outs i 1
  | up {i k d} (h : outs i = (k : Nat)) (r : Deep outs k d) : Deep outs i (d + 1)
theorem sl_atn {R : Type} {e o v len i : Nat} (hi : i < len) (K : AV → Option R) : ixa e (.sl o v 0 len) i K = K (.ptr o v (i * e)) := by
  have : (i : Int) < len := by omega
  simp [ixa, hi]
theorem deep_loop {h : Hp} {ol vl e len : Nat} {cells : List AV} {outs : Nat → Int} (ho : h[ol]? = some ⟨vl, e, cells⟩) (hc : ∀ i, i < len → cells[i * 4 + 1]? = some (ai (outs i))) (hlt : ∀ i, i < len → outs i < len) (k M : Nat) {i d : Nat} (r : Deep outs i d) :
    ∀ (N n : Nat), i < len → d < N → n + d < 1000000000000 → flow_deep_l56 k N M (.sl ol vl 0 len) i n h = some (.ret (ai ((n + d - 1 : Nat) : Int)), h) := by
  induction r with
  | @top i hi =>
    intro N n hil hN hn
    obtain ⟨N, rfl⟩ : ∃ q, N = q + 1 := ⟨N - 1, by omega⟩
    rw [flow_deep_l56_eq, sl_atn hil, pad_ptr, ldi_at ho (hc i hil), hi, bsp_not (by rfl), flow_deep_p15_eq]
    rfl
  | @up i j d hi r ih =>
    intro N n hil hN hn
    obtain ⟨N, rfl⟩ : ∃ q, N = q + 1 := ⟨N - 1, by omega⟩
    have hjl := hlt i hil
    rw [hi] at hjl
    rw [flow_deep_l56_eq, sl_atn hil, pad_ptr, ldi_at ho (hc i hil), hi, bsp_of (decide_eq_true (by omega)), sl_atn hil, pad_ptr, ldi_at ho (hc i hil), hi, wri_succ (by omega), ih N (n + 1) (by omega) (by omega) (by omega)]
    rw [show n + 1 + d - 1 = n + (d + 1) - 1 by omega]
theorem deep_spec {h : Hp} {ol vl e len : Nat} {cells : List AV} {outs : Nat → Int} (ho : h[ol]? = some ⟨vl, e, cells⟩) (hc : ∀ i, i < len → cells[i * 4 + 1]? = some (ai (outs i))) (hlt : ∀ i, i < len → outs i < len) {i d : Nat} (r : Deep outs i d) (hi : i < len) (hd : d < 1000000000) :
    G_flow_deep [.sl ol vl 0 len, ai i] h = some (.ret (ai (d : Nat)), h) := by
  unfold G_flow_deep
  rw [flow_deep_eq, show ((1 : Int)) = ((1 : Nat) : Int) from rfl, deep_loop ho hc hlt big h.length r big 1 hi (by rw [big_val]; omega) (by omega)]
  rw [show 1 + d - 1 = d by omega]
end Go.Proofs.Ytknphnmhjmejaaa
/-  The walk of the tree of dominators. No conditions. -/
namespace Go.Proofs.Ytknphnmhjmejaaa
set_option linter.unusedVariables false
theorem IsInts.atp {l : RV} {xs : List Int} (k : IsInts l xs) {i : Nat} (hi : i < xs.length) : ∃ q : RV, (∀ {R : Type} (h : Hp) (K : AV → Int → Option R), (ixa 1 (.rv l) i fun p => ldi .i64 h p fun n => K p n) = K (.rv q) xs[i]) ∧ ∀ {R : Type} (h : Hp) (K : Option R), sv1 h (.rv q) (ai xs[i]) K = K := by
  cases k
  · simp at hi
  · have : ((i : Int) < xs.length) := by omega
    refine ⟨.rop ((ints xs).drop i), fun h K => ?_, fun h K => ?_⟩
    · simp [ixa, ldi, ldv, cellAt, asInt0, ints, hi]
    · unfold sv1
      rw [if_pos]
      simp [cellAt, ints, hi]
theorem FA.push2 {h0 h : Hp} {F : Nat → List Int} {n : Nat} {cells : List AV} (k : FA h0 h F n cells) (w0 : Wr h0 h) {s : Nat} (hs : s < n) (hl : (F s).length < 1000000000) (x : Int) : ∃ v w h3 h4 cells', cells[s]? = some v ∧
    (∀ {R : Type} (K : AV → Hp → Option R), apn 1 8 (h ++ [⟨0, 1, [ai x]⟩]) v (.sl h.length 0 0 1) K = K w h3) ∧ (∀ {R : Type} (K : Hp → Option R), stv 1 h3 (.ptr h0.length 0 s) w K = K h4) ∧ Wr h0 h4 ∧ FA h0 h4 (fun i => if s = i then F i ++ [x] else F i) n cells' := by
  obtain ⟨v, hv⟩ : ∃ v, cells[s]? = some v := ⟨_, List.getElem?_eq_getElem (by rw [k.len]; exact hs)⟩
  obtain ⟨w, h3, hK, kw, hlt, hkeep, how⟩ := (k.ints s v hv).push2 hl x
  have hob := k.ob
  have hol := get_lt hob
  have hne : own v ≠ some h0.length := fun e => by have := k.high s v hv _ e; omega
  have hob3 : h3[h0.length]? = some ⟨0, 1, cells⟩ := by rw [hkeep _ hol hne]; exact hob
  have hown : ∀ o, own w = some o → h0.length < o := by
    intro o ho
    rcases how with e | ⟨o', e, hlt'⟩
    · rw [e] at ho; exact k.high s v hv o ho
    · rw [ho] at e; cases e; omega
  have hsl : s < cells.length := by rw [k.len]; exact hs
  refine ⟨v, w, h3, h3.set h0.length ⟨0, 1, cells.set s w⟩, cells.set s w, hv, fun K => ?_, fun K => ?_, ⟨by simp; omega, fun o ho => ?_⟩, ⟨get_set_eq hob3, by simp [k.len], ?_, ?_, ?_⟩⟩
  · have := hK K
    rw [bsl_one rfl] at this
    exact this
  · rw [stv_at hob3 hsl kw.cells.2 kw.cells.1]
  · rw [List.getElem?_set_ne (by omega), hkeep o (by omega) (fun e => by have := k.high s v hv o e; omega)]
    exact w0.eq o ho
  · intro i u hu
    rw [List.getElem?_set] at hu
    by_cases e : s = i
    · subst e
      rw [if_pos rfl, if_pos hsl] at hu
      cases hu
      simp only [if_true]
      exact kw.mono fun o ho => List.getElem?_set_ne (by have := hown o ho; omega)
    · rw [if_neg e] at hu
      simp only [if_neg e]
      refine (k.ints i u hu).mono fun o ho => ?_
      have h1 := (k.ints i u hu).ownlt ho
      have h2 := k.high i u hu o ho
      rw [List.getElem?_set_ne (by omega), hkeep o h1 (fun e' => k.dist i s u v (Ne.symm e) hu hv o ho e')]
  · intro i j u u' hij hu hu' o ho ho'
    rw [List.getElem?_set] at hu hu'
    by_cases e : s = i
    · subst e
      rw [if_pos rfl, if_pos hsl] at hu
      cases hu
      rw [if_neg hij] at hu'
      rcases how with e | ⟨o2, e, hlt'⟩
      · rw [e] at ho
        exact k.dist s j v u' hij hv hu' o ho ho'
      · rw [ho] at e; cases e
        have := (k.ints j u' hu').ownlt ho'
        omega
    · rw [if_neg e] at hu
      by_cases e2 : s = j
      · subst e2
        rw [if_pos rfl, if_pos hsl] at hu'
        cases hu'
        rcases how with e3 | ⟨o2, e3, hlt'⟩
        · rw [e3] at ho'
          exact k.dist i s u v hij hu hv o ho ho'
        · rw [ho'] at e3; cases e3
          have := (k.ints i u hu).ownlt ho
          omega
      · rw [if_neg e2] at hu'
        exact k.dist i j u u' hij hu hu' o ho ho'
  · intro i u hu o ho
    rw [List.getElem?_set] at hu
    by_cases e : s = i
    · subst e
      rw [if_pos rfl, if_pos hsl] at hu
      cases hu
      exact hown o ho
    · rw [if_neg e] at hu
      exact k.high i u hu o ho
/-! ### Stacks -/
theorem IntsJ.pop {h : Hp} {v : AV} {xs : List Int} {a : Int} (k : IntsJ h v (xs ++ [a])) (hl : xs.length < 1000000000) : ∃ w, (∀ {R : Type} (K : AV → Option R), slc 1 h v none (some (xs.length : Nat)) K = K w) ∧ IntsJ h w xs ∧ own w = own v := by
  generalize e : xs ++ [a] = ys at k
  cases k with
  | nil => exact absurd e (by simp)
  | @mk o ver ys junk ho =>
    subst e
    refine ⟨.sl o ver 0 xs.length, fun K => ?_, ?_, rfl⟩
    · simp only [slc, liveA, ho, Option.getD_some, Option.getD_none]
      rw [if_pos ⟨by simp, by omega, by omega, by simp; omega⟩]
      simp
    · exact .mk (junk := ai a :: junk) (by rw [ho]; simp)
theorem IntsJ.append {h : Hp} {v w : AV} {xs ys : List Int} {a : Int} (k : IntsJ h v (xs ++ [a])) (j : IntsAt h [] w ys) (hl : xs.length + ys.length < 1000000000) : ∃ u h3, (∀ {R : Type} (K : AV → Hp → Option R), apn 1 8 h v w K = K u h3) ∧ IntsJ h3 u (xs ++ [a] ++ ys) ∧ h3.length = h.length ∧ (∀ o, own v ≠ some o → h3[o]? = h[o]?) ∧ own u = own v := by
  generalize e : xs ++ [a] = zs at k
  have hz : zs.length = xs.length + 1 := by rw [← e]; simp
  cases k with
  | nil => simp at hz
  | @mk o ver zs junk ho =>
    have hw : wcells 1 h w = some (ys.length, ys.map ai) := by
      cases j with
      | nil => rfl
      | @mk o2 v2 ys ho2 hn =>
        simp only [wcells, ho2]
        rw [if_pos ⟨trivial, by simp⟩, List.drop_zero, List.take_of_length_le (by simp)]
    refine ⟨.sl o (ver + 1) 0 (zs.length + ys.length), h.set o ⟨ver + 1, 1, zs.map ai ++ ys.map ai⟩, fun K => ?_, ?_, by simp, fun o' hne => ?_, rfl⟩
    · have h2 : ((zs.length + ys.length : Nat) : Int) ≤ room := by simp [room]; omega
      have h3 : ((8 : Nat) : Int) * ((zs.length + ys.length : Nat) : Int) ≤ room := by simp [room]; omega
      have h5 : (zs.map ai ++ junk).take (zs.length * 1) = zs.map ai := by
        rw [List.take_append_of_le_length (by simp), List.take_of_length_le (by simp)]
      simp only [apn, hw, ho]
      rw [if_pos ⟨trivial, trivial, trivial, by simp, h2, h3, by simp [oneA]⟩, h5]
    · have := IntsJ.mk (h := h.set o ⟨ver + 1, 1, zs.map ai ++ ys.map ai⟩) (o := o) (v := ver + 1) (xs := zs ++ ys) (junk := []) (by
        rw [List.map_append, List.append_nil]; exact get_set_eq ho)
      rw [List.length_append] at this
      exact this
    · exact List.getElem?_set_ne fun e => hne (by subst e; rfl)
section
variable {G : Gr} {par : Par} {P : List Nat} {n : Nat} {dm ps : RV}
/-- The lists of children so far. -/
def KF (par : Par) (P : List Nat) (j : Nat) (y : Nat) : List Int := ((P.take j).filter fun b => dv par b == (y : Int)).map Int.ofNat
theorem KF_all (par : Par) (P : List Nat) (y : Nat) : KF par P P.length y = (kidsOf par P y).map Int.ofNat := by
  rw [KF, List.take_length]
  rfl
theorem KF_skip {j : Nat} (hj : j < P.length) (h : dv par P[j] = -1) : KF par P (j + 1) = KF par P j := by
  funext y
  rw [KF, KF, List.take_add_one, List.getElem?_eq_getElem hj, List.filter_append]
  have : ((-1 : Int) == (y : Int)) = false := by rw [beq_eq_false_iff_ne]; omega
  simp [h, this]
theorem KF_step {j s : Nat} (hj : j < P.length) (h : dv par P[j] = (s : Int)) : KF par P (j + 1) = fun i => if s = i then KF par P j i ++ [(P[j] : Int)] else KF par P j i := by
  funext y
  rw [KF, KF, List.take_add_one, List.getElem?_eq_getElem hj, List.filter_append]
  by_cases e : s = y
  · subst e
    simp [h]
  · have : ((s : Int) == (y : Int)) = false := by rw [beq_eq_false_iff_ne]; omega
    simp [h, this, e]
theorem kids_loop (kd : Done G par) (g : GrP G P n) (hn : n ≤ 4096) (hP : P.length ≤ n) (hdm : IsInts dm (dvs par n)) (hps : IsInts ps (P.map Int.ofNat)) (k M : Nat) {h0 : Hp} (Z : Option (ARes × Hp) → Prop)
    (outer : ∀ h cells, Wr h0 h → FA h0 h (KF par P P.length) n cells → Z (ssa_NewTree_p15 k (.rv dm) (.sl h0.length 0 0 n) h)) :
    ∀ (m j N : Nat) (h : Hp) (cells : List AV), j + m = P.length → m < N → Wr h0 h → FA h0 h (KF par P j) n cells → Z (ssa_NewTree_l116 k N M (.rv dm) (.sl h0.length 0 0 n) (.rv ps) P.length j h) := by
  intro m
  induction m with
  | zero =>
    intro j N h cells hj hN hw hf
    obtain ⟨N, rfl⟩ : ∃ q, N = q + 1 := ⟨N - 1, by omega⟩
    obtain rfl : j = P.length := by omega
    rw [ssa_NewTree_l116_eq, bsp_not (decide_eq_false (by omega))]
    exact outer h cells hw hf
  | succ m ih =>
    intro j N h cells hj hN hw hf
    obtain ⟨N, rfl⟩ : ∃ q, N = q + 1 := ⟨N - 1, by omega⟩
    have hjl : j < P.length := by omega
    have hjl' : j < (P.map Int.ofNat).length := by simpa using hjl
    have hx : P[j] ∈ P := List.getElem_mem hjl
    have hxn := g.lt _ hx
    have hxd : P[j] < (dvs par n).length := by rw [dvs_len]; exact hxn
    have e1 : (P.map Int.ofNat)[j]'hjl' = ((P[j] : Nat) : Int) := by simp
    have next : ∀ h cells, Wr h0 h → FA h0 h (KF par P (j + 1)) n cells → Z (ssa_NewTree_p935 k N M (.rv dm) (.sl h0.length 0 0 n) (.rv ps) P.length j h) := by
      intro h cells hw hf
      rw [ssa_NewTree_p935_eq, wri_succ (by omega)]
      exact ih (j + 1) N h cells (by omega) (by omega) hw hf
    rw [ssa_NewTree_l116_eq, bsp_of (decide_eq_true (by omega)), hps.at hjl', e1, hdm.at hxd, dvs_get]
    rcases kd.dv_step ((g.mem _).2 hx) with ⟨_, e⟩ | ⟨_, s, _, e, hs, _⟩
    · rw [e, bsp_not (by rfl)]
      exact next h cells hw (by rw [KF_skip hjl e]; exact hf)
    · have hsn := g.lt s ((g.mem s).1 hs)
      obtain ⟨q, hq, hsv⟩ := hdm.atp hxd
      rw [dvs_get, e] at hsv
      have hlen : (KF par P j s).length < 1000000000 := by
        unfold KF
        rw [List.length_map]
        have := List.length_filter_le (fun b => dv par b == (s : Int)) (P.take j)
        have : (P.take j).length ≤ P.length := by simp; omega
        omega
      obtain ⟨v, w, h3, h4, cells', hv, hK, hS, hw', hf'⟩ := hf.push2 hw hsn hlen (P[j] : Nat)
      rw [e, bsp_of (decide_eq_true (by omega)), hq, dvs_get, e, hq, dvs_get, e, sl_at hsn, ldv_at hf.ob hv, bsl_one rfl, hsv, hsv, sv1_at (get_old hf.ob _) hv, hK, hsv, sl_at hsn, hS]
      exact next h4 cells' hw' (by rw [KF_step hjl e]; exact hf')
/-! ### In and out -/
def enc (x : Itm) : Int := if x.1 then (x.2 : Int) else -(x.2 : Int) - 1
def stk (S : List Itm) : List Int := (S.map enc).reverse
theorem stk_cons (x : Itm) (S : List Itm) : stk (x :: S) = stk S ++ [enc x] := by simp [stk]
theorem stk_len (S : List Itm) : (stk S).length = S.length := by simp [stk]
theorem TRun.len {kids : Nat → List Nat} {S : List Itm} {c m c' : Nat} {i o i' o' : Nat → Nat} (r : TRun kids S c i o m c' i' o') : S.length ≤ m := by
  induction r with
  | done => simp
  | leave r ih => simp; omega
  | enter r ih => simp at ih ⊢; omega
structure TS (hA h : Hp) (n : Nat) (i o : Nat → Nat) (sv : AV) (S : List Itm) : Prop where
  keep : ∀ q, q < hA.length → h[q]? = hA[q]?
  oi : h[hA.length]? = some ⟨0, 1, (tl i n).map ai⟩
  oo : h[hA.length + 1]? = some ⟨0, 1, (tl o n).map ai⟩
  t : h[hA.length + 2]? = some ⟨0, 1, [.sl hA.length 0 0 n, .sl (hA.length + 1) 0 0 n]⟩
  st : IntsJ h sv (stk S)
  own : ∀ q, own sv = some q → hA.length + 3 ≤ q
theorem TS.len {hA h : Hp} {n : Nat} {i o : Nat → Nat} {sv : AV} {S : List Itm} (k : TS hA h n i o sv S) : hA.length + 2 < h.length := get_lt k.t
theorem tree_loop (g : GrP G P n) (hn : n ≤ 4096) {hA h0 : Hp} {cells : List AV} (w0 : Wr h0 hA) (fA : FA h0 hA (KF par P P.length) n cells) (k M : Nat) {S : List Itm} {c m c' : Nat} {i o i' o' : Nat → Nat} (r : TRun (kidsOf par P) S c i o m c' i' o') :
    ∀ (N : Nat) (h : Hp) (sv : AV), (∀ x ∈ S, x.2 ∈ P) → m < N → c + m < 1000000 → TS hA h n i o sv S →
      ∃ h' sv', ssa_NewTree_l1016 k N M (.sl h0.length 0 0 n) (.ptr (hA.length + 2) 0 0) c sv h = some (.ret (.ptr (hA.length + 2) 0 0), h') ∧ TS hA h' n i' o' sv' [] := by
  induction r with
  | done c i o =>
    intro N h sv hS hN hc ts
    obtain ⟨N, rfl⟩ : ∃ q, N = q + 1 := ⟨N - 1, by omega⟩
    rw [ssa_NewTree_l1016_eq, ts.st.lna, stk_len, bsp_not (decide_eq_false (by simp)), ssa_NewTree_p255_eq]
    exact ⟨h, sv, rfl, ts⟩
  | @leave b S c i o m c' i' o' r ih =>
    intro N h sv hS hN hc ts
    obtain ⟨N, rfl⟩ : ∃ q, N = q + 1 := ⟨N - 1, by omega⟩
    have hbP : b ∈ P := hS (false, b) (by simp)
    have hbn := g.lt b hbP
    have hlen := r.len
    have hst := ts.st
    rw [stk_cons] at hst
    have hsl := stk_len S
    have hlast : (stk S).length < (stk S ++ [enc (false, b)]).length := by simp
    have hget : (stk S ++ [enc (false, b)])[(stk S).length]'hlast = -(b : Int) - 1 := by simp [enc]
    obtain ⟨w, hslc, hw, hown⟩ := hst.pop (by omega)
    have hlen2 : (stk S ++ [enc (false, b)]).length = S.length + 1 := by simp [stk]
    have e1 : wri .i64 (((stk S ++ [enc (false, b)]).length : Int) - 1) = ((stk S).length : Nat) := by
      rw [hlen2, wri_small (by omega) (by omega), hsl]
      omega
    have e2 : wri .i64 (wri .i64 (0 - (-(b : Int) - 1)) - 1) = (b : Int) := by
      rw [wri_small (n := 0 - (-(b : Int) - 1)) (by omega) (by omega), wri_small (by omega) (by omega)]
      omega
    rw [ssa_NewTree_l1016_eq, hst.lna, bsp_of (decide_eq_true (by simp)), hst.lna, e1, hst.at hlast, hget, hst.lna, e1, hslc, bsp_of (decide_eq_true (by omega)), nck_ptr, pad_ptr, ldv_at ts.t (x := .sl (hA.length + 1) 0 0 n) rfl, e2, sl_at hbn, stv_at ts.oo (by simp [tl_len, hbn]) rfl rfl, tl_set hbn]
    have hl := ts.len
    refine ih N _ w (fun x hx => hS x (by simp [hx])) (by omega) (by omega) ⟨fun q hq => ?_, ?_, ?_, ?_, ?_, fun q hq => ts.own q (by rw [← hown]; exact hq)⟩
    · rw [List.getElem?_set_ne (by omega)]; exact ts.keep q hq
    · exact get_set_ne (by omega) ts.oi
    · exact get_set_eq ts.oo
    · exact get_set_ne (by omega) ts.t
    · exact hw.mono fun q hq => List.getElem?_set_ne (by have := ts.own q (by rw [← hown]; exact hq); omega)
  | @enter b S c i o m c' i' o' r ih =>
    intro N h sv hS hN hc ts
    obtain ⟨N, rfl⟩ : ∃ q, N = q + 1 := ⟨N - 1, by omega⟩
    have hbP : b ∈ P := hS (true, b) (by simp)
    have hbn := g.lt b hbP
    have hlen := r.len
    have hst := ts.st
    rw [stk_cons] at hst
    have hsl := stk_len S
    have hlast : (stk S).length < (stk S ++ [enc (true, b)]).length := by simp
    have hget : (stk S ++ [enc (true, b)])[(stk S).length]'hlast = (b : Int) := by simp [enc]
    simp only [List.length_append, List.length_map, List.length_reverse, List.length_cons] at hlen
    obtain ⟨w, hslc, hw, hown⟩ := hst.pop (by omega)
    have hlen2 : (stk S ++ [enc (true, b)]).length = S.length + 1 := by simp [stk]
    have e1 : wri .i64 (((stk S ++ [enc (true, b)]).length : Int) - 1) = ((stk S).length : Nat) := by
      rw [hlen2, wri_small (by omega) (by omega), hsl]
      omega
    have e2 : wri .i64 (wri .i64 (0 - (b : Int)) - 1) = enc (false, b) := by
      rw [wri_small (n := 0 - (b : Int)) (by omega) (by omega), wri_small (by omega) (by omega)]
      simp [enc]
    have hl := ts.len
    have hwown : ∀ q, own w = some q → hA.length + 3 ≤ q := fun q hq => ts.own q (by rw [← hown]; exact hq)
    have hw1 : IntsJ (h.set hA.length ⟨0, 1, (tl (put i b (c + 1)) n).map ai⟩) w (stk S) := hw.mono fun q hq => List.getElem?_set_ne (by have := hwown q hq; omega)
    obtain ⟨w2, h3, hK, hw2, hlt, hkeep, how⟩ := hw1.push (by omega) (enc (false, b))
    have hlt' : h.length < h3.length := by simpa using hlt
    have hkeep' : ∀ q, q < h.length → own w ≠ some q → h3[q]? = (h.set hA.length ⟨0, 1, (tl (put i b (c + 1)) n).map ai⟩)[q]? := fun q hq => hkeep q (by simpa using hq)
    have hw2own : ∀ q, own w2 = some q → hA.length + 3 ≤ q := by
      intro q hq
      rcases how with e | ⟨q', e, hlt'⟩
      · exact hwown q (by rw [← e]; exact hq)
      · rw [hq] at e; cases e
        simp at hlt'
        omega
    have low : ∀ q, q < hA.length + 3 → q ≠ hA.length → h3[q]? = h[q]? := by
      intro q hq hne
      rw [hkeep' q (by omega) (fun e => by have := hwown q e; omega), List.getElem?_set_ne (fun e => hne e.symm)]
    obtain ⟨kv, hkv⟩ : ∃ v, cells[b]? = some v := ⟨_, List.getElem?_eq_getElem (by rw [fA.len]; exact hbn)⟩
    have hkA := fA.ints b kv hkv
    rw [KF_all] at hkA
    have hk3 : IntsAt h3 [] kv ((kidsOf par P b).map Int.ofNat) := hkA.mono fun q hq => by
      have := hkA.ownlt hq
      rw [low q (by omega) (by omega), ts.keep q this]
    have hkids3 : h3[h0.length]? = some ⟨0, 1, cells⟩ := by
      have := get_lt fA.ob
      rw [low _ (by omega) (by omega), ts.keep _ this]
      exact fA.ob
    obtain ⟨u, h4, hK4, hu, hl4, hkeep4, hown4⟩ := hw2.append hk3 (by simp; omega)
    rw [ssa_NewTree_l1016_eq, hst.lna, bsp_of (decide_eq_true (by simp)), hst.lna, e1, hst.at hlast, hget, hst.lna, e1, hslc, bsp_not (decide_eq_false (by omega)), nck_ptr, pad_ptr, ldv_at ts.t (x := .sl hA.length 0 0 n) rfl, wri_succ (by omega), e2, sl_at hbn, stv_at ts.oi (by simp [tl_len, hbn]) rfl rfl, tl_set hbn, hK, sl_at hbn, ldv_at hkids3 hkv, hK4]
    have low4 : ∀ q, q < hA.length + 3 → q ≠ hA.length → h4[q]? = h[q]? := by
      intro q hq hne
      rw [hkeep4 q (fun e => by have := hw2own q e; omega), low q hq hne]
    refine ih N h4 u (fun x hx => ?_) (by omega) (by omega) ⟨fun q hq => ?_, ?_, ?_, ?_, ?_, fun q hq => hw2own q (by rw [← hown4]; exact hq)⟩
    · rcases List.mem_append.1 hx with h | h
      · rw [List.mem_map] at h
        obtain ⟨y, hy, rfl⟩ := h
        have := List.mem_reverse.1 hy
        exact (List.mem_filter.1 this).1
      · rcases List.mem_cons.1 h with rfl | h
        · exact hbP
        · exact hS x (by simp [h])
    · rw [low4 q (by omega) (by omega)]; exact ts.keep q hq
    · rw [hkeep4 _ (fun e => by have := hw2own _ e; omega), hkeep' _ (by omega) (fun e => by have := hwown _ e; omega)]
      exact get_set_eq ts.oi
    · rw [low4 _ (by omega) (by omega)]; exact ts.oo
    · rw [low4 _ (by omega) (by omega)]; exact ts.t
    · have : stk ((kidsOf par P b).reverse.map (fun c => (true, c)) ++ (false, b) :: S) = stk S ++ [enc (false, b)] ++ (kidsOf par P b).map Int.ofNat := by
        simp only [stk, List.map_append, List.map_cons, List.reverse_append, List.reverse_cons, List.map_map, List.map_reverse, List.reverse_reverse, List.append_assoc]
        congr 2
      rw [this]
      exact hu
theorem NewTree_spec (kd : Done G par) (g : GrP G P n) (hn : n ≤ 4096) (hP : P.length ≤ n) (hdm : IsInts dm (dvs par n)) (hps : IsInts ps (P.map Int.ofNat)) (h0 : Hp) :
    ∃ h' to oi oo i o, G_ssa_NewTree [.rv dm, .rv ps] h0 = some (.ret (.ptr to 0 0), h') ∧ TreeAt par P n h' to oi oo i o ∧ Wr h0 h' ∧ h0.length ≤ to ∧ h0.length ≤ oi ∧ h0.length ≤ oo := by
  obtain ⟨m, c', i', o', r, hm, hc, hle, hanc⟩ := kd.tree g (fun _ => 0) (fun _ => 0)
  have hz : ∀ n, zrep [AV.rv (.int .i64 0)] n = (tl (fun _ => 0) n).map ai := by
    intro n
    apply List.ext_getElem?
    intro i
    by_cases hi : i < n
    · rw [tl_at hi]; simp [zrep, hi]
    · rw [List.getElem?_eq_none (by simp [zrep]; omega), List.getElem?_eq_none (by simp [tl_len]; omega)]
  have hw0 : Wr h0 (h0 ++ [⟨0, 1, zrep [.rv .nils] n⟩]) := ⟨by simp, fun o ho => by rw [List.getElem?_append_left ho]⟩
  have hcell : ∀ (i : Nat) (v : AV), (zrep [AV.rv .nils] n)[i]? = some v → v = .rv .nils := by
    intro i v hv
    simp only [zrep, List.flatten_replicate_singleton, List.getElem?_replicate] at hv
    split at hv
    · exact (Option.some.inj hv).symm
    · cases hv
  have hf0 : FA h0 (h0 ++ [⟨0, 1, zrep [.rv .nils] n⟩]) (KF par P 0) n (zrep [.rv .nils] n) := by
    refine ⟨get_new _, by simp [zrep], fun i v hv => ?_, fun i j v w hij hv hw o ho => ?_, fun i v hv o ho => ?_⟩
    · rw [hcell i v hv]
      exact .nil
    · rw [hcell i v hv] at ho; cases ho
    · rw [hcell i v hv] at ho; cases ho
  have hmain := kids_loop kd g hn hP hdm hps big (h0 ++ [(⟨0, 1, zrep [.rv .nils] n⟩ : Ob)]).length (h0 := h0)
    (fun z => ∃ h' to oi oo i o, z = some (.ret (.ptr to 0 0), h') ∧ TreeAt par P n h' to oi oo i o ∧ Wr h0 h' ∧ h0.length ≤ to ∧ h0.length ≤ oi ∧ h0.length ≤ oo)
    (fun hA cells w0 fA => by
      rw [ssa_NewTree_p15_eq, hdm.len, dvs_len, mks_one (by omega) (by omega), hdm.len, dvs_len, mks_one (by omega) (by omega), hz]
      have e1 : ∀ (K : AV → Option (ARes × Hp)) (x y : AV), vcells x = some [x] → vcells y = some [y] → bld [.rv .nils, .rv .nils] [(some (0, 1), x), (some (1, 1), y)] K = K (.agg [x, y]) := by
        intro K x y hx hy
        simp [bld, fillA, hx, hy, setAt]
      have e2 : ∀ (K : AV → Hp → Option (ARes × Hp)) (x y : AV) (h : Hp), nwc 1 (vcells (.agg [x, y])) h K = K (.ptr h.length 0 0) (h ++ [⟨0, 1, [x, y]⟩]) := fun K x y h => rfl
      rw [e1 _ _ _ rfl rfl, e2, bsl_one rfl]
      simp only [List.length_append, List.length_cons, List.length_nil, Nat.zero_add]
      have hl1 := get_lt fA.ob
      have ts : TS hA (hA ++ [⟨0, 1, (tl (fun _ => 0) n).map ai⟩] ++ [⟨0, 1, (tl (fun _ => 0) n).map ai⟩] ++ [⟨0, 1, [.sl hA.length 0 0 n, .sl (hA.length + 1) 0 0 n]⟩] ++ [⟨0, 1, [ai 0]⟩]) n (fun _ => 0) (fun _ => 0) (.sl (hA.length + 1 + 1 + 1) 0 0 1) [(true, 0)] := by
        refine ⟨fun q hq => ?_, ?_, ?_, ?_, ?_, fun q hq => ?_⟩
        · rw [List.append_assoc, List.append_assoc, List.append_assoc, List.getElem?_append_left hq]
        · rw [List.append_assoc, List.append_assoc, List.append_assoc, List.getElem?_append_right (Nat.le_refl _)]; simp
        · rw [List.append_assoc, List.append_assoc, List.append_assoc, List.getElem?_append_right (by omega)]; simp
        · rw [List.append_assoc, List.append_assoc, List.append_assoc, List.getElem?_append_right (by omega)]; simp
        · have := IntsJ.mk (h := hA ++ [⟨0, 1, (tl (fun _ => 0) n).map ai⟩] ++ [⟨0, 1, (tl (fun _ => 0) n).map ai⟩] ++ [⟨0, 1, [.sl hA.length 0 0 n, .sl (hA.length + 1) 0 0 n]⟩] ++ [(⟨0, 1, [ai 0]⟩ : Ob)]) (o := hA.length + 1 + 1 + 1) (v := 0) (xs := [0]) (junk := []) (by
            rw [List.append_assoc, List.append_assoc, List.append_assoc, List.getElem?_append_right (by omega)]
            simp [show hA.length + 1 + 1 + 1 - hA.length = 3 by omega])
          exact this
        · simp only [own, Option.some.injEq] at hq
          omega
      obtain ⟨h', sv', e, ts'⟩ := tree_loop g hn w0 fA big _ r big _ _ (fun x hx => by
        have : x = (true, 0) := by simpa using hx
        subst this
        exact (g.mem 0).1 G.n0) (by rw [big_val]; omega) (by omega) ts
      refine ⟨h', hA.length + 2, hA.length, hA.length + 1, i', o', e, ⟨ts'.t, ts'.oi, ts'.oo, fun x y hx hy => hanc x y ((g.mem x).2 hx) ((g.mem y).2 hy), g.lt⟩, ⟨by have := ts'.len; omega, fun q hq => ?_⟩, by omega, by omega, by omega⟩
      rw [ts'.keep q (by omega)]
      exact w0.eq q hq)
    P.length 0 big _ _ (by omega) (by rw [big_val]; omega) hw0 hf0
  unfold G_ssa_NewTree
  rw [ssa_NewTree_eq, hdm.len, dvs_len, mks_one' (by omega), hps.len, List.length_map]
  exact hmain
end
end Go.Proofs.Ytknphnmhjmejaaa
/-  The walk of a loop's body: against the flow, from what leads back to its head. No conditions. -/
namespace Go.Proofs.Ytknphnmhjmejaaa
set_option linter.unusedVariables false
/-- A loop's blocks. -/
inductive InB (bs : List Blk) (par : Par) (hd : Nat) : Nat → Prop
  | head : InB bs par hd hd
  | src {p : Nat} (h : p ∈ prd bs hd) (a : Anc par p hd) : InB bs par hd p
  | back {x p : Nat} (r : InB bs par hd x) (hx : x ≠ hd) (h : p ∈ prd bs x) : InB bs par hd p
theorem Keeps.refl (os oat : Nat) (v : AV) (h : Hp) : Keeps os oat v v h h := ⟨Nat.le_refl _, fun _ _ _ _ _ => rfl, .inl rfl⟩
theorem Keeps.trans {os oat : Nat} {a b c : AV} {h h' h2 : Hp} (x : Keeps os oat a b h h') (y : Keeps os oat b c h' h2) : Keeps os oat a c h h2 := by
  obtain ⟨x1, x2, x3⟩ := x
  obtain ⟨y1, y2, y3⟩ := y
  refine ⟨Nat.le_trans x1 y1, fun o ho h1 h2 h3 => ?_, ?_⟩
  · rw [y2 o (by omega) h1 h2 fun e => ?_, x2 o ho h1 h2 h3]
    rcases x3 with e' | ⟨o', e', hlt⟩
    · exact h3 (by rw [← e']; exact e)
    · rw [e] at e'; cases e'; omega
  · rcases y3 with e | ⟨o', e, hlt⟩
    · rw [e]; exact x3
    · exact .inr ⟨o', e, by omega⟩
theorem add_spec {h : Hp} {os oat n : Nat} {inV : AV} {A : List Int} {S : List Nat} (k : SetAt h os oat n inV A S) (hn : n < 1000000000) {x : Nat} (hx : x < n) :
    ∃ h' inV' A', G_flow_set_add [.ptr os 0 0, ai x] h = some (.ret undefA, h') ∧ SetAt h' os oat n inV' A' (if x ∈ S then S else S ++ [x]) ∧ Keeps os oat inV inV' h h' := by
  by_cases hm : x ∈ S
  · refine ⟨h, inV, A, add_old k hx hm, ?_, .refl _ _ _ _⟩
    rw [if_pos hm]; exact k
  · obtain ⟨h', inV', A', e, s, kp⟩ := add_new k hn hx hm
    refine ⟨h', inV', A', e, ?_, kp⟩
    rw [if_neg hm]; exact s
structure BH (par : Par) (P : List Nat) (n : Nat) (hS h : Hp) (cb to oi oo os oat : Nat) (i o : Nat → Nat) (cells : List AV) (inV0 inV : AV) (A : List Int) (S : List Nat) : Prop where
  c : h[cb]? = some ⟨0, 1, cells⟩
  tr : TreeAt par P n h to oi oo i o
  set : SetAt h os oat n inV A S
  clr : ∀ q, q = cb ∨ q = to ∨ q = oi ∨ q = oo → q ≠ os ∧ q ≠ oat ∧ own inV ≠ some q
  kp : Keeps os oat inV0 inV hS h
section
variable {par : Par} {P : List Nat} {n : Nat} {hS h : Hp} {cb to oi oo os oat : Nat} {i o : Nat → Nat} {cells : List AV} {inV0 inV : AV} {A : List Int} {S : List Nat}
theorem BH.add (k : BH par P n hS h cb to oi oo os oat i o cells inV0 inV A S) (hn : n < 1000000000) {x : Nat} (hx : x < n) : ∃ h' inV' A', G_flow_set_add [.ptr os 0 0, ai x] h = some (.ret undefA, h') ∧ BH par P n hS h' cb to oi oo os oat i o cells inV0 inV' A' (if x ∈ S then S else S ++ [x]) := by
  obtain ⟨h', inV', A', e, s, kp⟩ := add_spec k.set hn hx
  have same : ∀ q, q = cb ∨ q = to ∨ q = oi ∨ q = oo → q < h.length → h'[q]? = h[q]? := fun q hq hl => by
    obtain ⟨h1, h2, h3⟩ := k.clr q hq
    exact kp.2.1 q hl h1 h2 h3
  have hlt : ∀ q, q = cb ∨ q = to ∨ q = oi ∨ q = oo → q < h.length := by
    rintro q (rfl | rfl | rfl | rfl)
    · exact get_lt k.c
    · exact get_lt k.tr.t
    · exact get_lt k.tr.oi
    · exact get_lt k.tr.oo
  refine ⟨h', inV', A', e, by rw [same cb (.inl rfl) (hlt cb (.inl rfl))]; exact k.c, k.tr.mono fun q hq => same q (.inr hq) (hlt q (.inr hq)), s, fun q hq => ?_, k.kp.trans kp⟩
  obtain ⟨h1, h2, h3⟩ := k.clr q hq
  refine ⟨h1, h2, ?_⟩
  rcases kp.2.2 with e2 | ⟨q', e2, hlt'⟩
  · rw [e2]; exact h3
  · rw [e2]
    intro e3
    have := hlt q hq
    cases e3
    omega
end
/-- What the set is while what leads back to the head is added. -/
structure B1 (bs : List Blk) (par : Par) (hd j : Nat) (S : List Nat) : Prop where
  first : S[0]? = some hd
  inb : ∀ y ∈ S, InB bs par hd y
  done : ∀ q p, q < j → (prd bs hd)[q]? = some p → Anc par p hd → p ∈ S
theorem B1.push {bs : List Blk} {par : Par} {hd j p : Nat} {S : List Nat} (k : B1 bs par hd j S) (hp : (prd bs hd)[j]? = some p) (ha : Anc par p hd) : B1 bs par hd (j + 1) (if p ∈ S then S else S ++ [p]) := by
  have sub : ∀ y, y ∈ S → y ∈ (if p ∈ S then S else S ++ [p]) := fun y hy => by
    by_cases e : p ∈ S
    · rw [if_pos e]; exact hy
    · rw [if_neg e]; exact List.mem_append_left _ hy
  have self : p ∈ (if p ∈ S then S else S ++ [p]) := by
    by_cases e : p ∈ S
    · rw [if_pos e]; exact e
    · rw [if_neg e]; simp
  refine ⟨?_, fun y hy => ?_, fun q p' hq hp' ha' => ?_⟩
  · by_cases e : p ∈ S
    · rw [if_pos e]; exact k.first
    · rw [if_neg e, List.getElem?_append_left (List.getElem?_eq_some_iff.1 k.first).1]; exact k.first
  · by_cases e : p ∈ S
    · rw [if_pos e] at hy; exact k.inb y hy
    · rw [if_neg e] at hy
      rcases List.mem_append.1 hy with h | h
      · exact k.inb y h
      · have : y = p := by simpa using h
        rw [this]
        exact .src (List.mem_of_getElem? hp) ha
  · by_cases e : q = j
    · subst e
      rw [hp] at hp'
      cases hp'
      exact self
    · exact sub _ (k.done q p' (by omega) hp' ha')
theorem B1.skip {bs : List Blk} {par : Par} {hd j p : Nat} {S : List Nat} (k : B1 bs par hd j S) (hp : (prd bs hd)[j]? = some p) (ha : ¬ Anc par p hd) : B1 bs par hd (j + 1) S :=
  ⟨k.first, k.inb, fun q p' hq hp' ha' => by
    by_cases e : q = j
    · subst e
      rw [hp] at hp'
      cases hp'
      exact absurd ha' ha
    · exact k.done q p' (by omega) hp' ha'⟩
/-- What the set is while what leads to its blocks is added. -/
structure B2 (bs : List Blk) (par : Par) (hd t j : Nat) (S : List Nat) : Prop where
  first : S[0]? = some hd
  inb : ∀ y ∈ S, InB bs par hd y
  src : ∀ p, p ∈ prd bs hd → Anc par p hd → p ∈ S
  done : ∀ t' x, 1 ≤ t' → t' < t → S[t']? = some x → ∀ p ∈ prd bs x, p ∈ S
  cur : ∀ x, S[t]? = some x → ∀ q p, q < j → (prd bs x)[q]? = some p → p ∈ S
theorem B2.push {bs : List Blk} {par : Par} {hd t j x p : Nat} {S : List Nat} (k : B2 bs par hd t j S) (hnd : S.Nodup) (ht : 1 ≤ t) (hx : S[t]? = some x) (hp : (prd bs x)[j]? = some p) : B2 bs par hd t (j + 1) (if p ∈ S then S else S ++ [p]) := by
  have htl := (List.getElem?_eq_some_iff.1 hx).1
  have sub : ∀ y, y ∈ S → y ∈ (if p ∈ S then S else S ++ [p]) := fun y hy => by
    by_cases e : p ∈ S
    · rw [if_pos e]; exact hy
    · rw [if_neg e]; exact List.mem_append_left _ hy
  have self : p ∈ (if p ∈ S then S else S ++ [p]) := by
    by_cases e : p ∈ S
    · rw [if_pos e]; exact e
    · rw [if_neg e]; simp
  have low : ∀ q, q < S.length → (if p ∈ S then S else S ++ [p])[q]? = S[q]? := fun q hq => by
    by_cases e : p ∈ S
    · rw [if_pos e]
    · rw [if_neg e, List.getElem?_append_left hq]
  have hxh : x ≠ hd := by
    intro e
    have h0 := k.first
    have hl0 := (List.getElem?_eq_some_iff.1 h0).1
    have e1 := (List.getElem?_eq_some_iff.1 h0).2
    have e2 := (List.getElem?_eq_some_iff.1 hx).2
    have : 0 = t := (List.getElem_inj hnd).1 (by rw [e1, e2, e])
    omega
  refine ⟨?_, fun y hy => ?_, fun q h1 h2 => sub _ (k.src q h1 h2), fun t' x' h1 h2 h3 q hq => ?_, fun x' h3 q p' hq hp' => ?_⟩
  · rw [low 0 (by omega)]; exact k.first
  · by_cases e : p ∈ S
    · rw [if_pos e] at hy; exact k.inb y hy
    · rw [if_neg e] at hy
      rcases List.mem_append.1 hy with h | h
      · exact k.inb y h
      · have : y = p := by simpa using h
        rw [this]
        exact .back (k.inb x (List.mem_of_getElem? hx)) hxh (List.mem_of_getElem? hp)
  · rw [low t' (by omega)] at h3
    exact sub _ (k.done t' x' h1 h2 h3 q hq)
  · rw [low t htl, hx] at h3
    cases h3
    by_cases e : q = j
    · subst e
      rw [hp] at hp'
      cases hp'
      exact self
    · exact sub _ (k.cur x hx q p' (by omega) hp')
theorem B2.next {bs : List Blk} {par : Par} {hd t x : Nat} {S : List Nat} (k : B2 bs par hd t (prd bs x).length S) (hx : S[t]? = some x) : B2 bs par hd (t + 1) 0 S :=
  ⟨k.first, k.inb, k.src, fun t' x' h1 h2 h3 p hp => by
    by_cases e : t' = t
    · subst e
      rw [hx] at h3
      cases h3
      obtain ⟨q, hq, e⟩ := List.getElem_of_mem hp
      exact k.cur x hx q p hq (by rw [List.getElem?_eq_getElem hq, e])
    · exact k.done t' x' h1 (by omega) h3 p hp, fun x' _ q p hq => absurd hq (by omega)⟩
theorem B2.all {bs : List Blk} {par : Par} {hd t : Nat} {S : List Nat} (k : B2 bs par hd t 0 S) (ht : S.length ≤ t) (y : Nat) : y ∈ S ↔ InB bs par hd y := by
  refine ⟨k.inb y, fun h => ?_⟩
  induction h with
  | head => exact List.mem_of_getElem? k.first
  | src h a => exact k.src _ h a
  | @back x p r hx h ih =>
    obtain ⟨t', ht', e⟩ := List.getElem_of_mem ih
    have h0 : t' ≠ 0 := by
      rintro rfl
      have := k.first
      rw [List.getElem?_eq_getElem ht', e] at this
      exact hx (Option.some.inj this)
    exact k.done t' x (by omega) (by omega) (by rw [List.getElem?_eq_getElem ht', e]) p h
theorem IntsJ.zero {h : Hp} {v : AV} {xs : List Int} (k : IntsJ h v xs) : ∃ w, (∀ {R : Type} (K : AV → Option R), slc 1 h v none (some 0) K = K w) ∧ IntsJ h w [] ∧ own w = own v := by
  cases k with
  | nil => exact ⟨.rv .nils, fun K => by simp [slc], .nil, rfl⟩
  | @mk o ver xs junk ho =>
    refine ⟨.sl o ver 0 0, fun K => ?_, ?_, rfl⟩
    · simp only [slc, liveA, ho, Option.getD_some, Option.getD_none]
      rw [if_pos ⟨by simp, by omega, by omega, by omega⟩]
      simp
    · exact .mk (xs := []) (junk := xs.map ai ++ junk) (by rw [ho]; simp)
/-- A copy of a list of a function of ours. -/
theorem CloneJ_spec {h : Hp} {o v : Nat} {xs : List Int} {junk : List AV} (ho : h[o]? = some ⟨v, 1, xs.map ai ++ junk⟩) (hl : xs.length < 1000000000) :
    G_slices_Clone_int [.sl o v 0 xs.length] h = some (.ret (.sl h.length 1 0 xs.length), h ++ [⟨1, 1, xs.map ai⟩]) := by
  unfold G_slices_Clone_int
  rw [slices_Clone_int_eq]
  have e0 : ∀ (K : Bool → Option (ARes × Hp)), nilEq false 2 (.sl o v 0 xs.length) K = K false := fun K => rfl
  have e1 : ∀ K : AV → Hp → Option (ARes × Hp), bsl 1 0 [.rv (.int .i64 0)] [] h K = K (.sl h.length 0 0 0) (h ++ [⟨0, 1, []⟩]) := fun K => rfl
  have e2 : wcells 1 (h ++ [(⟨0, 1, []⟩ : Ob)]) (.sl o v 0 xs.length) = some (xs.length, xs.map ai) := by
    simp only [wcells, get_old ho]
    rw [if_pos ⟨trivial, by simp⟩, List.drop_zero, List.take_append_of_le_length (by simp), List.take_of_length_le (by simp)]
  have e3 : ((0 + xs.length : Nat) : Int) ≤ room := by simp [room]; omega
  have e4 : ((8 : Nat) : Int) * ((0 + xs.length : Nat) : Int) ≤ room := by simp [room]; omega
  rw [e0, bsp_not rfl, e1]
  simp only [apn, e2, get_new]
  rw [if_pos ⟨trivial, trivial, trivial, by simp, e3, e4, by simp [oneA]⟩]
  simp
/-- What a walk of a body comes to. -/
def BodyEnd (bs : List Blk) (par : Par) (hd n : Nat) (hS : Hp) (os oat : Nat) (inV0 : AV) (z : Option (ARes × Hp)) : Prop :=
  ∃ h' ob inV A S, z = some (.ret (.sl ob 1 0 S.length), h') ∧ h'[ob]? = some ⟨1, 1, (sortL (S.map Int.ofNat)).map ai⟩ ∧ hS.length ≤ ob ∧ SetAt h' os oat n inV A S ∧ own inV ≠ some ob ∧ Keeps os oat inV0 inV hS h' ∧ ∀ y, y ∈ S ↔ InB bs par hd y
section
variable {par : Par} {P : List Nat} {n : Nat} {hS : Hp} {cb to oi oo os oat : Nat} {i o : Nat → Nat} {p r v b : RV} {d : Cd} {inV0 : AV} {hd : Nat}
theorem body_preds (hb : IsRows 6 IsBlk b d.blocks) (hn : n = d.blocks.length) (hsh : n ≤ 4096) (hpn : ∀ (x : Nat) (q : Blk), d.blocks[x]? = some q → ∀ z ∈ q.preds, ∃ m : Nat, z = m ∧ m < d.blocks.length) (k N500 M500 M t x : Nat) (ht : 1 ≤ t) (hxl : x < d.blocks.length) {pv : RV} (hpv : IsInts pv d.blocks[x].preds) (Z : Option (ARes × Hp) → Prop)
    (outer : ∀ h inV A S, BH par P n hS h cb to oi oo os oat i o [.rv p, .rv r, .rv v, .rv b] inV0 inV A S → S[t]? = some x → B2 d.blocks par hd t (prd d.blocks x).length S → Z (flow_body_p2003 k N500 M500 (.ptr os 0 0) (.ptr cb 0 0) t h)) :
    ∀ (m j N : Nat) (h : Hp) (inV : AV) (A : List Int) (S : List Nat), j + m = d.blocks[x].preds.length → m < N → BH par P n hS h cb to oi oo os oat i o [.rv p, .rv r, .rv v, .rv b] inV0 inV A S → S[t]? = some x → B2 d.blocks par hd t j S →
      Z (flow_body_l32036 k N500 M500 N M (.ptr os 0 0) (.ptr cb 0 0) t (.rv pv) d.blocks[x].preds.length j h) := by
  have hs := hpv.short
  intro m
  induction m with
  | zero =>
    intro j N h inV A S hj hN bh hx b2
    obtain ⟨N, rfl⟩ : ∃ q, N = q + 1 := ⟨N - 1, by omega⟩
    rw [flow_body_l32036_eq, bsp_not (decide_eq_false (by omega))]
    refine outer h inV A S bh hx ?_
    rw [prd_at hxl, List.length_map, show d.blocks[x].preds.length = j by omega]
    exact b2
  | succ m ih =>
    intro j N h inV A S hj hN bh hx b2
    obtain ⟨N, rfl⟩ : ∃ q, N = q + 1 := ⟨N - 1, by omega⟩
    have hjl : j < d.blocks[x].preds.length := by omega
    obtain ⟨y, hy, hyl⟩ := hpn x _ (List.getElem?_eq_getElem hxl) _ (List.getElem_mem hjl)
    have hpy : (prd d.blocks x)[j]? = some y := by rw [prd_at hxl, List.getElem?_map, List.getElem?_eq_getElem hjl, hy]; simp
    obtain ⟨h', inV', A', e, bh'⟩ := bh.add (by omega) (x := y) (by omega)
    have htl := (List.getElem?_eq_some_iff.1 hx).1
    rw [flow_body_l32036_eq, bsp_of (decide_eq_true (by omega)), hpv.at hjl, hy, callG_ret e, wri_succ (by omega)]
    refine ih (j + 1) N h' inV' A' _ (by omega) (by omega) bh' ?_ (b2.push bh.set.nd ht hx hpy)
    by_cases e : y ∈ S
    · rw [if_pos e]; exact hx
    · rw [if_neg e, List.getElem?_append_left htl]; exact hx
theorem body_outer (hb : IsRows 6 IsBlk b d.blocks) (hn : n = d.blocks.length) (hsh : n ≤ 4096) (hpn : ∀ (x : Nat) (q : Blk), d.blocks[x]? = some q → ∀ z ∈ q.preds, ∃ m : Nat, z = m ∧ m < d.blocks.length) (k M : Nat) (hk : 1000000000 < k) :
    ∀ (m t N : Nat) (h : Hp) (inV : AV) (A : List Int) (S : List Nat), 1 ≤ t → n - t ≤ m → m < N → BH par P n hS h cb to oi oo os oat i o [.rv p, .rv r, .rv v, .rv b] inV0 inV A S → B2 d.blocks par hd t 0 S →
      BodyEnd d.blocks par hd n hS os oat inV0 (flow_body_l500 k N M (.ptr os 0 0) (.ptr cb 0 0) t h) := by
  have fin : ∀ (t N : Nat) (h : Hp) (inV : AV) (A : List Int) (S : List Nat), 0 < N → S.length ≤ t → BH par P n hS h cb to oi oo os oat i o [.rv p, .rv r, .rv v, .rv b] inV0 inV A S → B2 d.blocks par hd t 0 S →
      BodyEnd d.blocks par hd n hS os oat inV0 (flow_body_l500 k N M (.ptr os 0 0) (.ptr cb 0 0) t h) := by
    intro t N h inV A S hN ht bh b2
    obtain ⟨N, rfl⟩ : ∃ q, N = q + 1 := ⟨N - 1, by omega⟩
    have hSl : S.length ≤ n := nodup_le _ _ bh.set.nd bh.set.lt
    rw [flow_body_l500_eq, nck_ptr, pad_ptr, ldv_at bh.set.ob (x := inV) rfl, bh.set.ins.lna, bsp_not (decide_eq_false (by rw [List.length_map]; omega)), flow_body_p63_eq, nck_ptr, pad_ptr, ldv_at bh.set.ob (x := inV) rfl]
    have hins := bh.set.ins
    have hne : S.map Int.ofNat ≠ [] := by
      have := (List.getElem?_eq_some_iff.1 b2.first).1
      intro e
      rw [List.map_eq_nil_iff] at e
      rw [e] at this
      simp at this
    generalize exs : S.map Int.ofNat = xs at hins hne
    have hxl : xs.length = S.length := by rw [← exs]; simp
    have hown1 := bh.set.own1
    have hown2 := bh.set.own2
    cases hins with
    | nil => exact absurd rfl hne
    | @mk q ver xs junk ho =>
      have hql := get_lt ho
      have hkp := bh.kp
      rw [callG_ret (CloneJ_spec ho (by omega)), callG_ret (Sort_spec (get_new _) (by omega))]
      refine ⟨_, h.length, _, A, S, by rw [hxl], ?_, hkp.1, bh.set.mono fun q' hq' => ?_, ?_, hkp.trans ⟨by simp, fun q' hq' _ _ _ => ?_, .inl rfl⟩, b2.all ht⟩
      · rw [exs]
        exact get_set_eq (get_new _)
      · have : q' < h.length := by
          rcases hq' with rfl | rfl | hq'
          · exact get_lt bh.set.ob
          · exact get_lt bh.set.at'
          · exact bh.set.ins.ownlt hq'
        rw [List.getElem?_set_ne (by omega), List.getElem?_append_left this]
      · simp only [own]
        intro e
        cases e
        omega
      · rw [List.getElem?_set_ne (by omega), List.getElem?_append_left hq']
  intro m
  induction m with
  | zero =>
    intro t N h inV A S ht hm hN bh b2
    have hSl : S.length ≤ n := nodup_le _ _ bh.set.nd bh.set.lt
    exact fin t N h inV A S (by omega) (by omega) bh b2
  | succ m ih =>
    intro t N h inV A S ht hm hN bh b2
    have hSl : S.length ≤ n := nodup_le _ _ bh.set.nd bh.set.lt
    by_cases htl : t < S.length
    · obtain ⟨N, rfl⟩ : ∃ q, N = q + 1 := ⟨N - 1, by omega⟩
      have hxl : S[t] < d.blocks.length := by rw [← hn]; exact bh.set.lt _ (List.getElem_mem htl)
      obtain ⟨a, q, s, t', rest', k1, k2, k3, k4, hbx⟩ := blk_at (R := ARes × Hp) hb hxl
      have hat : t < (S.map Int.ofNat).length := by simpa using htl
      have hget : (S.map Int.ofNat)[t]'hat = ((S[t] : Nat) : Int) := by simp
      have hs2 := k2.short
      rw [flow_body_l500_eq, nck_ptr, pad_ptr, ldv_at bh.set.ob (x := inV) rfl, bh.set.ins.lna, bsp_of (decide_eq_true (by rw [List.length_map]; omega)), pad_ptr, ldv_at bh.c (x := .rv b) rfl, nck_ptr, pad_ptr, ldv_at bh.set.ob (x := inV) rfl, bh.set.ins.at hat, hget, hbx, pad_rop3, ldv_rop, k2.len, show ((0 : Int)) = ((0 : Nat) : Int) from rfl]
      refine body_preds hb hn hsh hpn k N M _ t S[t] ht hxl k2 (fun z => BodyEnd d.blocks par hd n hS os oat inV0 z) (fun h inV A S' bh hx b2 => ?_) d.blocks[S[t]].preds.length 0 k h inV A S (by omega) (by omega) bh (List.getElem?_eq_getElem htl) b2
      rw [flow_body_p2003_eq, wri_succ (by omega)]
      exact ih (t + 1) N h inV A S' (by omega) (by omega) (by omega) bh (b2.next hx)
    · exact fin t N h inV A S (by omega) (by omega) bh b2
open Classical in
theorem body_src (hb : IsRows 6 IsBlk b d.blocks) (hn : n = d.blocks.length) (hsh : n ≤ 4096) (hhd : hd ∈ P) (hhl : hd < d.blocks.length) (hpP : ∀ z ∈ prd d.blocks hd, z ∈ P) (hpn : ∀ (x : Nat) (q : Blk), d.blocks[x]? = some q → ∀ z ∈ q.preds, ∃ m : Nat, z = m ∧ m < d.blocks.length) (k M : Nat) (hk : 1000000000 < k) {pv : RV} (hpv : IsInts pv d.blocks[hd].preds) :
    ∀ (m j N : Nat) (h : Hp) (inV : AV) (A : List Int) (S : List Nat), j + m = d.blocks[hd].preds.length → m < N → BH par P n hS h cb to oi oo os oat i o [.rv p, .rv r, .rv v, .rv b] inV0 inV A S → B1 d.blocks par hd j S →
      BodyEnd d.blocks par hd n hS os oat inV0 (flow_body_l244 k N M (.ptr to 0 0) hd (.ptr os 0 0) (.ptr cb 0 0) (.rv pv) d.blocks[hd].preds.length j h) := by
  have hs := hpv.short
  intro m
  induction m with
  | zero =>
    intro j N h inV A S hj hN bh b1
    obtain ⟨N, rfl⟩ : ∃ q, N = q + 1 := ⟨N - 1, by omega⟩
    rw [flow_body_l244_eq, bsp_not (decide_eq_false (by omega)), flow_body_p31_eq, show ((1 : Int)) = ((1 : Nat) : Int) from rfl]
    refine body_outer hb hn hsh hpn k _ hk n 1 k h inV A S (Nat.le_refl _) (by omega) (by omega) bh ⟨b1.first, b1.inb, fun q hq ha => ?_, fun t' x h1 h2 => by omega, fun x _ q p' hq => by omega⟩
    obtain ⟨q', hq', e⟩ := List.getElem_of_mem hq
    refine b1.done q' q ?_ (by rw [List.getElem?_eq_getElem hq', e]) ha
    have : (prd d.blocks hd).length = d.blocks[hd].preds.length := by rw [prd_at hhl, List.length_map]
    omega
  | succ m ih =>
    intro j N h inV A S hj hN bh b1
    obtain ⟨N, rfl⟩ : ∃ q, N = q + 1 := ⟨N - 1, by omega⟩
    have hjl : j < d.blocks[hd].preds.length := by omega
    obtain ⟨y, hy, hyl⟩ := hpn hd _ (List.getElem?_eq_getElem hhl) _ (List.getElem_mem hjl)
    have hpy : (prd d.blocks hd)[j]? = some y := by rw [prd_at hhl, List.getElem?_map, List.getElem?_eq_getElem hjl, hy]; simp
    have hyP := hpP y (List.mem_of_getElem? hpy)
    rw [flow_body_l244_eq, bsp_of (decide_eq_true (by omega)), hpv.at hjl, hy, callG_ret (Over_spec bh.tr hhd hyP), asBool_b]
    by_cases ha : Anc par y hd
    · obtain ⟨h', inV', A', e, bh'⟩ := bh.add (by omega) (x := y) (by omega)
      rw [bsp_of (decide_eq_true ha), callG_ret e, flow_body_p1959_eq, wri_succ (by omega)]
      exact ih (j + 1) N h' inV' A' _ (by omega) (by omega) bh' (b1.push hpy ha)
    · rw [bsp_not (decide_eq_false ha), flow_body_p1959_eq, wri_succ (by omega)]
      exact ih (j + 1) N h inV A S (by omega) (by omega) bh (b1.skip hpy ha)
theorem body_spec {h : Hp} {inV : AV} {A : List Int} {S : List Nat} (hb : IsRows 6 IsBlk b d.blocks) (hn : n = d.blocks.length) (hsh : n ≤ 4096) (hhd : hd ∈ P) (hpP : ∀ z ∈ prd d.blocks hd, z ∈ P) (hpn : ∀ (x : Nat) (q : Blk), d.blocks[x]? = some q → ∀ z ∈ q.preds, ∃ m : Nat, z = m ∧ m < d.blocks.length)
    (tr : TreeAt par P n h to oi oo i o) (hset : SetAt h os oat n inV A S) (clr : ∀ q, q = to ∨ q = oi ∨ q = oo → q ≠ os ∧ q ≠ oat ∧ own inV ≠ some q) :
    BodyEnd d.blocks par hd n h os oat inV (G_flow_body [.agg [.rv p, .rv r, .rv v, .rv b], .ptr to 0 0, ai hd, .ptr os 0 0] h) := by
  have hhl : hd < d.blocks.length := by rw [← hn]; exact tr.lt hd hhd
  obtain ⟨a, q, s, t, rest', k1, k2, k3, k4, hbx⟩ := blk_at (R := ARes × Hp) hb hhl
  have e2 : ∀ (K : AV → Hp → Option (ARes × Hp)), nwc 1 (vcells (.agg [.rv p, .rv r, .rv v, .rv b])) h K = K (.ptr h.length 0 0) (h ++ [⟨0, 1, [.rv p, .rv r, .rv v, .rv b]⟩]) := fun K => rfl
  have hset1 : SetAt (h ++ [(⟨0, 1, [.rv p, .rv r, .rv v, .rv b]⟩ : Ob)]) os oat n inV A S := hset.mono fun q' hq' => by
    have : q' < h.length := by
      rcases hq' with rfl | rfl | hq'
      · exact get_lt hset.ob
      · exact get_lt hset.at'
      · exact hset.ins.ownlt hq'
    rw [List.getElem?_append_left this]
  obtain ⟨w, hslc, hw, hown⟩ := hset1.ins.zero
  have hol := get_lt hset.ob
  have hal := get_lt hset.at'
  have hset2 : SetAt ((h ++ [(⟨0, 1, [.rv p, .rv r, .rv v, .rv b]⟩ : Ob)]).set os ⟨0, 1, [inV, .sl oat 0 0 n].set 0 w⟩) os oat n w A [] := by
    refine ⟨get_set_eq hset1.ob, hw.mono fun q' hq' => List.getElem?_set_ne (by rintro rfl; exact hset.own1 (by rw [← hown]; exact hq')), get_set_ne hset.ne hset1.at', hset.len, hset.nat, by simp, by simp, by simp, hset.ne, by rw [hown]; exact hset.own1, by rw [hown]; exact hset.own2⟩
  have hcb : ((h ++ [(⟨0, 1, [.rv p, .rv r, .rv v, .rv b]⟩ : Ob)]).set os ⟨0, 1, [inV, .sl oat 0 0 n].set 0 w⟩)[h.length]? = some ⟨0, 1, [.rv p, .rv r, .rv v, .rv b]⟩ := get_set_ne (by omega) (get_new _)
  have hinl : ∀ q', own inV = some q' → q' < h.length := fun q' hq' => hset.ins.ownlt hq'
  have htl : ∀ q', q' = to ∨ q' = oi ∨ q' = oo → q' < h.length := by
    rintro q' (rfl | rfl | rfl)
    · exact get_lt tr.t
    · exact get_lt tr.oi
    · exact get_lt tr.oo
  have bh0 : BH par P n h ((h ++ [(⟨0, 1, [.rv p, .rv r, .rv v, .rv b]⟩ : Ob)]).set os ⟨0, 1, [inV, .sl oat 0 0 n].set 0 w⟩) h.length to oi oo os oat i o [.rv p, .rv r, .rv v, .rv b] inV w A [] := by
    refine ⟨hcb, tr.mono fun q' hq' => ?_, hset2, ?_, ⟨by simp, fun q' hq' h1 _ _ => ?_, .inl hown⟩⟩
    · rw [List.getElem?_set_ne (fun e => (clr q' hq').1 e.symm), List.getElem?_append_left (htl q' hq')]
    · rintro q' (rfl | hq')
      · refine ⟨by omega, by omega, fun e => ?_⟩
        rw [hown] at e
        have := hinl _ e
        omega
      · rw [hown]; exact clr q' hq'
    · rw [List.getElem?_set_ne (fun e => h1 e.symm), List.getElem?_append_left hq']
  obtain ⟨h', inV', A', e, bh⟩ := bh0.add (by omega) (x := hd) (by omega)
  have hnot : ¬ hd ∈ ([] : List Nat) := by simp
  rw [if_neg hnot, List.nil_append] at bh
  have hs2 := k2.short
  unfold G_flow_body
  rw [flow_body_eq, e2, nck_ptr, pad_ptr, ldv_at hset1.ob (x := inV) rfl, hslc, nck_ptr, pad_ptr, stv_at hset1.ob (by simp) hw.cells.2 hw.cells.1, callG_ret e, pad_ptr, ldv_at bh.c (x := .rv b) rfl, hbx, pad_rop3, ldv_rop, k2.len, show ((0 : Int)) = ((0 : Nat) : Int) from rfl]
  exact body_src hb hn hsh hhd hhl hpP hpn big _ (by rw [big_val]; omega) k2 d.blocks[hd].preds.length 0 big h' inV' A' [hd] (by omega) (by rw [big_val]; omega) bh ⟨rfl, fun y hy => by
    have : y = hd := by simpa using hy
    rw [this]
    exact .head, fun q p' hq => by omega⟩
end
end Go.Proofs.Ytknphnmhjmejaaa
/-  The walk of the loops: which there are. No conditions. -/
namespace Go.Proofs.Ytknphnmhjmejaaa
set_option linter.unusedVariables false
/-- A loop, as it lies on the heap. -/
structure LR where
  head : Nat
  ob : Nat
  body : List Int
/-- Its cells, with its outer one and its depth. -/
structure LC (h : Hp) (ol vl : Nat) (l : List LR) (outs ds : Nat → Int) (cells : List AV) : Prop where
  ob : h[ol]? = some ⟨vl, 4, cells⟩
  len : cells.length = l.length * 4
  c0 : ∀ (i : Nat) (x : LR), l[i]? = some x → cells[i * 4]? = some (ai (x.head : Nat))
  c1 : ∀ (i : Nat) (x : LR), l[i]? = some x → cells[i * 4 + 1]? = some (ai (outs i))
  c2 : ∀ (i : Nat) (x : LR), l[i]? = some x → cells[i * 4 + 2]? = some (ai (ds i))
  c3 : ∀ (i : Nat) (x : LR), l[i]? = some x → cells[i * 4 + 3]? = some (.sl x.ob 1 0 x.body.length)
/-- The loops so far: none has an outer one yet. -/
inductive LsAt (h : Hp) : AV → List LR → Prop
  | nil : LsAt h (.rv .nils) []
  | mk {ol vl : Nat} {l : List LR} {cells : List AV} (k : LC h ol vl l (fun _ => -1) (fun _ => 0) cells) : LsAt h (.sl ol vl 0 l.length) l
theorem LsAt.mono {h h' : Hp} {v : AV} {l : List LR} (k : LsAt h v l) (hk : ∀ o, own v = some o → h'[o]? = h[o]?) : LsAt h' v l := by
  cases k with
  | nil => exact .nil
  | mk k => exact .mk ⟨by rw [hk _ rfl]; exact k.ob, k.len, k.c0, k.c1, k.c2, k.c3⟩
theorem LsAt.ownlt {h : Hp} {v : AV} {l : List LR} (k : LsAt h v l) {o : Nat} (ho : own v = some o) : o < h.length := by
  cases k with
  | nil => cases ho
  | mk k => cases ho; exact get_lt k.ob
theorem LsAt.push {h : Hp} {v : AV} {l : List LR} (k : LsAt h v l) (hl : l.length < 1000000000) (x : LR) : ∃ w h3, (∀ {R : Type} (K : AV → Hp → Option R), apn 4 48 (h ++ [⟨0, 4, [ai (x.head : Nat), ai (-1), ai 0, .sl x.ob 1 0 x.body.length]⟩]) v (.sl h.length 0 0 1) K = K w h3) ∧
    LsAt h3 w (l ++ [x]) ∧ h.length < h3.length ∧ (∀ o, o < h.length → own v ≠ some o → h3[o]? = h[o]?) ∧ (own w = own v ∨ ∃ o, own w = some o ∧ h.length < o) := by
  have hw : wcells 4 (h ++ [(⟨0, 4, [ai (x.head : Nat), ai (-1), ai 0, .sl x.ob 1 0 x.body.length]⟩ : Ob)]) (.sl h.length 0 0 1) = some (1, [ai (x.head : Nat), ai (-1), ai 0, .sl x.ob 1 0 x.body.length]) := by
    simp only [wcells, get_new]
    rw [if_pos (by simp)]
    rfl
  cases k with
  | nil =>
    refine ⟨.sl (h.length + 1) 0 0 1, h ++ [⟨0, 4, [ai (x.head : Nat), ai (-1), ai 0, .sl x.ob 1 0 x.body.length]⟩] ++ [⟨0, 4, [ai (x.head : Nat), ai (-1), ai 0, .sl x.ob 1 0 x.body.length]⟩], fun K => ?_, ?_, by simp, fun o ho _ => ?_, .inr ⟨_, rfl, by omega⟩⟩
    · simp only [apn, hw]
      rw [if_neg (by omega), if_pos ⟨by simp [room], by simp [room], by simp [oneA]⟩]
      simp
    · have one : ∀ (i : Nat) (y : LR), [x][i]? = some y → i = 0 ∧ y = x := by
        intro i y hi
        cases i with
        | zero => exact ⟨rfl, by simpa using hi.symm⟩
        | succ i => simp at hi
      have := LsAt.mk (h := h ++ [⟨0, 4, [ai (x.head : Nat), ai (-1), ai 0, .sl x.ob 1 0 x.body.length]⟩] ++ [⟨0, 4, [ai (x.head : Nat), ai (-1), ai 0, .sl x.ob 1 0 x.body.length]⟩]) (ol := h.length + 1) (vl := 0) (l := [x]) (cells := [ai (x.head : Nat), ai (-1), ai 0, .sl x.ob 1 0 x.body.length])
        ⟨by simp, by simp, fun i y hi => by obtain ⟨rfl, rfl⟩ := one i y hi; rfl, fun i y hi => by obtain ⟨rfl, rfl⟩ := one i y hi; rfl, fun i y hi => by obtain ⟨rfl, rfl⟩ := one i y hi; rfl, fun i y hi => by obtain ⟨rfl, rfl⟩ := one i y hi; rfl⟩
      exact this
    · rw [List.append_assoc, List.getElem?_append_left ho]
  | @mk ol vl l cells k =>
    have ho := k.ob
    have hlt := get_lt ho
    have h2 := get_old ho [⟨0, 4, [ai (x.head : Nat), ai (-1), ai 0, .sl x.ob 1 0 x.body.length]⟩]
    refine ⟨.sl ol (vl + 1) 0 (l.length + 1), (h ++ [(⟨0, 4, [ai (x.head : Nat), ai (-1), ai 0, .sl x.ob 1 0 x.body.length]⟩ : Ob)]).set ol ⟨vl + 1, 4, cells ++ [ai (x.head : Nat), ai (-1), ai 0, .sl x.ob 1 0 x.body.length]⟩, fun K => ?_, ?_, by simp, fun o ho' hne => ?_, .inl rfl⟩
    · have h4 : ((l.length + 1 : Nat) : Int) ≤ room := by simp [room]; omega
      have h5 : ((48 : Nat) : Int) * ((l.length + 1 : Nat) : Int) ≤ room := by simp [room]; omega
      simp only [apn, hw, h2]
      rw [if_pos ⟨trivial, trivial, trivial, by rw [k.len]; omega, h4, h5, by simp [oneA]⟩, List.take_of_length_le (by rw [k.len]; omega)]
    · have at' : ∀ (i j : Nat) (y : LR), j < 4 → (l ++ [x])[i]? = some y → (cells ++ [ai (x.head : Nat), ai (-1), ai 0, .sl x.ob 1 0 x.body.length])[i * 4 + j]? = if i < l.length then cells[i * 4 + j]? else [ai (y.head : Nat), ai (-1), ai 0, .sl y.ob 1 0 y.body.length][j]? := by
        intro i j y hj hi
        by_cases hil : i < l.length
        · rw [if_pos hil, List.getElem?_append_left (by rw [k.len]; omega)]
        · rw [if_neg hil]
          have hi2 := (List.getElem?_eq_some_iff.1 hi).1
          have : i = l.length := by simp at hi2; omega
          subst this
          have : y = x := by simpa using hi.symm
          subst this
          rw [List.getElem?_append_right (by rw [k.len]; omega), k.len]
          congr 1
          omega
      have old : ∀ (i : Nat) (y : LR), (l ++ [x])[i]? = some y → i < l.length → l[i]? = some y := fun i y hi hil => by rwa [List.getElem?_append_left hil] at hi
      have := LsAt.mk (h := (h ++ [(⟨0, 4, [ai (x.head : Nat), ai (-1), ai 0, .sl x.ob 1 0 x.body.length]⟩ : Ob)]).set ol ⟨vl + 1, 4, cells ++ [ai (x.head : Nat), ai (-1), ai 0, .sl x.ob 1 0 x.body.length]⟩) (ol := ol) (vl := vl + 1) (l := l ++ [x]) (cells := cells ++ [ai (x.head : Nat), ai (-1), ai 0, .sl x.ob 1 0 x.body.length])
        ⟨get_set_eq h2, by simp [k.len]; omega, fun i y hi => by
          have := at' i 0 y (by omega) hi
          rw [Nat.add_zero] at this
          rw [this]
          split
          · exact k.c0 i y (old i y hi ‹_›)
          · rfl, fun i y hi => by
          rw [at' i 1 y (by omega) hi]
          split
          · exact k.c1 i y (old i y hi ‹_›)
          · rfl, fun i y hi => by
          rw [at' i 2 y (by omega) hi]
          split
          · exact k.c2 i y (old i y hi ‹_›)
          · rfl, fun i y hi => by
          rw [at' i 3 y (by omega) hi]
          split
          · exact k.c3 i y (old i y hi ‹_›)
          · rfl⟩
      rw [List.length_append] at this
      exact this
    · have h3 : ol ≠ o := fun e => hne (by subst e; rfl)
      rw [List.getElem?_set_ne h3, List.getElem?_append_left ho']
structure PL (hB h : Hp) (n os oat : Nat) (inV : AV) (A : List Int) (S : List Nat) (lv : AV) (l : List LR) : Prop where
  fx : ∀ q, q < hB.length → q ≠ os → q ≠ oat → h[q]? = hB[q]?
  set : SetAt h os oat n inV A S
  iown : ∀ q, own inV = some q → hB.length ≤ q
  ls : LsAt h lv l
  lown : ∀ q, own lv = some q → hB.length ≤ q ∧ own inV ≠ some q
  bo : ∀ x ∈ l, hB.length ≤ x.ob ∧ h[x.ob]? = some ⟨1, 1, x.body.map ai⟩ ∧ own inV ≠ some x.ob ∧ own lv ≠ some x.ob
  olt : os < hB.length ∧ oat < hB.length ∧ hB.length ≤ h.length
  dis : l.Pairwise fun x y => x.ob ≠ y.ob
section
variable {hB h : Hp} {n os oat : Nat} {inV : AV} {A : List Int} {S : List Nat} {lv : AV} {l : List LR}
theorem PL.setlt (k : PL hB h n os oat inV A S lv l) : ∀ q, q = os ∨ q = oat ∨ own inV = some q → q < h.length := by
  rintro q (rfl | rfl | hq)
  · exact get_lt k.set.ob
  · exact get_lt k.set.at'
  · exact k.set.ins.ownlt hq
theorem PL.app (k : PL hB h n os oat inV A S lv l) (e : Hp) : PL hB (h ++ e) n os oat inV A S lv l := by
  have hl := k.olt
  refine ⟨fun q h1 h2 h3 => ?_, k.set.mono fun q hq => by rw [List.getElem?_append_left (k.setlt q hq)], k.iown, k.ls.mono fun q hq => by rw [List.getElem?_append_left (k.ls.ownlt hq)], k.lown, fun x hx => ?_, ⟨hl.1, hl.2.1, by rw [List.length_append]; omega⟩, k.dis⟩
  · rw [List.getElem?_append_left (by omega)]; exact k.fx q h1 h2 h3
  · obtain ⟨h1, h2, h3, h4⟩ := k.bo x hx
    exact ⟨h1, get_old h2 e, h3, h4⟩
theorem PL.body {h' : Hp} {inV' : AV} {A' : List Int} {S' : List Nat} (k : PL hB h n os oat inV A S lv l) (s : SetAt h' os oat n inV' A' S') (kp : Keeps os oat inV inV' h h') : PL hB h' n os oat inV' A' S' lv l ∧ ∀ q, own lv = some q → q < h.length := by
  have hl := k.olt
  have hlt : ∀ q, own lv = some q → q < h.length := fun q hq => k.ls.ownlt hq
  have new : ∀ q, q < h.length → own inV ≠ some q → own inV' ≠ some q := by
    intro q hq hne e
    rcases kp.2.2 with e2 | ⟨o, e2, hlt⟩
    · rw [e2] at e; exact hne e
    · rw [e2] at e; cases e; omega
  refine ⟨⟨fun q h1 h2 h3 => ?_, s, fun q hq => ?_, k.ls.mono fun q hq => ?_, fun q hq => ?_, fun x hx => ?_, ⟨hl.1, hl.2.1, by have := kp.1; omega⟩, k.dis⟩, hlt⟩
  · rw [kp.2.1 q (by omega) h2 h3 fun e => by have := k.iown q e; omega]; exact k.fx q h1 h2 h3
  · rcases kp.2.2 with e2 | ⟨o, e2, hlt'⟩
    · exact k.iown q (by rw [← e2]; exact hq)
    · rw [e2] at hq; cases hq; omega
  · obtain ⟨h1, h2⟩ := k.lown q hq
    exact kp.2.1 q (hlt q hq) (by omega) (by omega) h2
  · obtain ⟨h1, h2⟩ := k.lown q hq
    exact ⟨h1, new q (hlt q hq) h2⟩
  · obtain ⟨h1, h2, h3, h4⟩ := k.bo x hx
    have := get_lt h2
    exact ⟨h1, by rw [kp.2.1 _ this (by omega) (by omega) h3]; exact h2, new _ this h3, h4⟩
theorem PL.push {x : LR} (k : PL hB h n os oat inV A S lv l) (hl : l.length < 1000000000) (hx : hB.length ≤ x.ob ∧ h[x.ob]? = some ⟨1, 1, x.body.map ai⟩ ∧ own inV ≠ some x.ob ∧ own lv ≠ some x.ob) (hdis : ∀ y ∈ l, y.ob ≠ x.ob) :
    ∃ w h3, (∀ {R : Type} (K : AV → Hp → Option R), apn 4 48 (h ++ [⟨0, 4, [ai (x.head : Nat), ai (-1), ai 0, .sl x.ob 1 0 x.body.length]⟩]) lv (.sl h.length 0 0 1) K = K w h3) ∧ PL hB h3 n os oat inV A S w (l ++ [x]) := by
  obtain ⟨w, h3, hK, hls, hlt, hkeep, how⟩ := k.ls.push hl x
  have hol := k.olt
  have wown : ∀ q, own w = some q → (hB.length ≤ q ∧ own inV ≠ some q) ∧ (q < h.length → own lv = some q) := by
    intro q hq
    rcases how with e | ⟨o, e, ho⟩
    · rw [e] at hq
      exact ⟨k.lown q hq, fun _ => hq⟩
    · rw [e] at hq; cases hq
      exact ⟨⟨by omega, fun e => by have := k.set.ins.ownlt e; omega⟩, fun h => by omega⟩
  refine ⟨w, h3, hK, fun q h1 h2 h3' => ?_, k.set.mono fun q hq => ?_, k.iown, hls, fun q hq => (wown q hq).1, fun y hy => ?_, ⟨hol.1, hol.2.1, by omega⟩, by
    rw [List.pairwise_append]
    refine ⟨k.dis, by simp, fun y hy z hz => ?_⟩
    have : z = x := by simpa using hz
    rw [this]
    exact hdis y hy⟩
  · rw [hkeep q (by omega) fun e => by have := (k.lown q e).1; omega]; exact k.fx q h1 h2 h3'
  · refine hkeep q (k.setlt q hq) fun e => ?_
    obtain ⟨h1, h2⟩ := k.lown q e
    rcases hq with rfl | rfl | hq
    · omega
    · omega
    · exact h2 hq
  · have hy' : hB.length ≤ y.ob ∧ h[y.ob]? = some ⟨1, 1, y.body.map ai⟩ ∧ own inV ≠ some y.ob ∧ own lv ≠ some y.ob := by
      rcases List.mem_append.1 hy with h1 | h1
      · exact k.bo y h1
      · have : y = x := by simpa using h1
        rw [this]; exact hx
    obtain ⟨h1, h2, h3', h4⟩ := hy'
    have := get_lt h2
    exact ⟨h1, by rw [hkeep _ this h4]; exact h2, h3', fun e => h4 ((wown _ e).2 this)⟩
end
/-- A head of a loop. -/
def IsHead (bs : List Blk) (par : Par) (hd : Nat) : Prop := ∃ p ∈ prd bs hd, Anc par p hd
/-- A loop's blocks, in order. -/
structure BodyOk (bs : List Blk) (par : Par) (x : LR) : Prop where
  sorted : x.body.Pairwise (· < ·)
  mem : ∀ y : Int, y ∈ x.body ↔ ∃ z : Nat, y = z ∧ InB bs par x.head z
/-- The loops whose heads stand below a block. -/
structure Upto (bs : List Blk) (par : Par) (j : Nat) (l : List LR) : Prop where
  ok : ∀ x ∈ l, BodyOk bs par x ∧ x.head < j ∧ IsHead bs par x.head
  up : l.Pairwise (fun x y => x.head < y.head)
  all : ∀ hd, hd < j → IsHead bs par hd → ∃ x ∈ l, x.head = hd
theorem Upto.len {bs : List Blk} {par : Par} {j : Nat} {l : List LR} (k : Upto bs par j l) : l.length ≤ j := by
  have hnd : (l.map (·.head)).Nodup := by
    rw [List.nodup_iff_pairwise_ne, List.pairwise_map]
    exact k.up.imp fun h => Nat.ne_of_lt h
  have := nodup_le j (l.map (·.head)) hnd (fun x hx => by
    rw [List.mem_map] at hx
    obtain ⟨y, hy, rfl⟩ := hx
    exact (k.ok y hy).2.1)
  simpa using this
theorem Upto.skip {bs : List Blk} {par : Par} {j : Nat} {l : List LR} (k : Upto bs par j l) (h : ¬ IsHead bs par j) : Upto bs par (j + 1) l :=
  ⟨fun x hx => ⟨(k.ok x hx).1, by have := (k.ok x hx).2.1; omega, (k.ok x hx).2.2⟩, k.up, fun hd h1 h2 => by
    by_cases e : hd = j
    · subst e; exact absurd h2 h
    · exact k.all hd (by omega) h2⟩
theorem Upto.push {bs : List Blk} {par : Par} {j : Nat} {l : List LR} {x : LR} (k : Upto bs par j l) (h : IsHead bs par j) (hx : x.head = j) (hb : BodyOk bs par x) : Upto bs par (j + 1) (l ++ [x]) :=
  ⟨fun y hy => by
    rcases List.mem_append.1 hy with h1 | h1
    · exact ⟨(k.ok y h1).1, by have := (k.ok y h1).2.1; omega, (k.ok y h1).2.2⟩
    · have : y = x := by simpa using h1
      subst this
      exact ⟨hb, by omega, hx ▸ h⟩, by
    rw [List.pairwise_append]
    refine ⟨k.up, by simp, fun y hy z hz => ?_⟩
    have : z = x := by simpa using hz
    subst this
    have := (k.ok y hy).2.1
    omega, fun hd h1 h2 => by
    by_cases e : hd = j
    · exact ⟨x, by simp, by omega⟩
    · obtain ⟨y, hy, e⟩ := k.all hd (by omega) h2
      exact ⟨y, by simp [hy], e⟩⟩
theorem sortL_up (zs : List Int) (h : zs.Nodup) : (sortL zs).Pairwise (· < ·) := by
  have h1 : (sortL zs).Pairwise (fun a b => decide (a ≤ b) = true) := List.pairwise_mergeSort (fun a b c h1 h2 => by simp at *; omega) (fun a b => by simp; omega) zs
  have h2 : (sortL zs).Nodup := (List.mergeSort_perm zs _).nodup_iff.2 h
  exact (h1.and h2).imp fun ⟨a, b⟩ => by
    simp at a
    omega
theorem sortL_mem (zs : List Int) (y : Int) : y ∈ sortL zs ↔ y ∈ zs := List.mem_mergeSort
section
variable {par : Par} {P : List Nat} {n : Nat} {hB : Hp} {to oi oo os oat pt : Nat} {i o : Nat → Nat} {p r v b : RV} {d : Cd}
open Classical in
theorem heads_loop (hb : IsRows 6 IsBlk b d.blocks) (hn : n = d.blocks.length) (hsh : n ≤ 4096) (hpn : ∀ (x : Nat) (q : Blk), d.blocks[x]? = some q → ∀ z ∈ q.preds, ∃ m : Nat, z = m ∧ m < d.blocks.length) (hpP : ∀ x ∈ P, ∀ z ∈ prd d.blocks x, z ∈ P) (hhole : ∀ x, x < n → x ∉ P → prd d.blocks x = [])
    (hc : hB[0]? = some ⟨0, 1, [.rv p, .rv r, .rv v, .rv b]⟩) (tr : TreeAt par P n hB to oi oo i o) (hpt : hB[pt]? = some ⟨0, 1, [.ptr to 0 0]⟩) (hne : ∀ q, q = 0 ∨ q = to ∨ q = oi ∨ q = oo ∨ q = pt → q ≠ os ∧ q ≠ oat) (k M : Nat)
    (Z : Option (ARes × Hp) → Prop) (outer : ∀ h inV A S lv l, PL hB h n os oat inV A S lv l → Upto d.blocks par n l → Z (flow_Loops_p255 k lv h)) :
    ∀ (m j N : Nat) (h : Hp) (inV : AV) (A : List Int) (S : List Nat) (lv : AV) (l : List LR), j + m = n → m < N → PL hB h n os oat inV A S lv l → Upto d.blocks par j l → Z (flow_Loops_l2036 k N M (.ptr 0 0 0) (.ptr pt 0 0) (.ptr os 0 0) lv (.rv b) n j h) := by
  intro m
  induction m with
  | zero =>
    intro j N h inV A S lv l hj hN pl up
    obtain ⟨N, rfl⟩ : ∃ q, N = q + 1 := ⟨N - 1, by omega⟩
    obtain rfl : j = n := by omega
    rw [flow_Loops_l2036_eq, bsp_not (decide_eq_false (by omega))]
    exact outer h inV A S lv l pl up
  | succ m ih =>
    intro j N h inV A S lv l hj hN pl up
    obtain ⟨N, rfl⟩ : ∃ q, N = q + 1 := ⟨N - 1, by omega⟩
    have hjl : j < d.blocks.length := by omega
    obtain ⟨a, q, s, t, rest', k1, k2, k3, k4, hbx⟩ := blk_at (R := ARes × Hp) hb hjl
    have e1 : ∀ (K : AV → Hp → Option (ARes × Hp)) (h : Hp) (c : List AV), nwc 1 (some c) h K = K (.ptr h.length 0 0) (h ++ [⟨0, 1, c⟩]) := fun K h c => rfl
    have s1 : ∀ (K : Hp → Option (ARes × Hp)), stv 1 (h ++ [⟨0, 1, [ai 0]⟩] ++ [⟨0, 1, [ai 0, ai 0, .rv .nils, .rv .nils, .rv .nils, .rv .nils]⟩]) (.ptr h.length 0 0) (ai (j : Nat)) K = K (h ++ [⟨0, 1, [ai (j : Nat)]⟩] ++ [⟨0, 1, [ai 0, ai 0, .rv .nils, .rv .nils, .rv .nils, .rv .nils]⟩]) := by
      intro K
      rw [stv_at (o := h.length) (get_old (get_new _) _) (by simp) rfl rfl]
      congr 1
      simp
    have s2 : ∀ (K : Hp → Option (ARes × Hp)), stv 6 (h ++ [⟨0, 1, [ai (j : Nat)]⟩] ++ [⟨0, 1, [ai 0, ai 0, .rv .nils, .rv .nils, .rv .nils, .rv .nils]⟩]) (.ptr (h ++ [(⟨0, 1, [ai 0]⟩ : Ob)]).length 0 0) (.agg [.rv (I d.blocks[j].kind), .rv (I d.blocks[j].n), .rv a, .rv q, .rv s, .rv t]) K = K (h ++ [⟨0, 1, [ai (j : Nat)]⟩] ++ [⟨0, 1, [.rv (I d.blocks[j].kind), .rv (I d.blocks[j].n), .rv a, .rv q, .rv s, .rv t]⟩]) := by
      intro K
      have hg := get_new (h := h ++ [(⟨0, 1, [ai (j : Nat)]⟩ : Ob)]) ⟨0, 1, [ai 0, ai 0, .rv .nils, .rv .nils, .rv .nils, .rv .nils]⟩
      have hlen : (h ++ [(⟨0, 1, [ai 0]⟩ : Ob)]).length = (h ++ [(⟨0, 1, [ai (j : Nat)]⟩ : Ob)]).length := by simp
      rw [hlen]
      simp only [stv, vcells, hg]
      rw [if_pos ⟨by simp, by simp, by simp, by simp only [List.all_cons, List.all_nil, k1.one, k2.one, k3.one, k4.one]; rfl⟩]
      congr 1
      simp [setAt]
    obtain ⟨hA, ehA⟩ : ∃ hA : Hp, hA = h ++ [⟨0, 1, [ai (j : Nat)]⟩] ++ [⟨0, 1, [.rv (I d.blocks[j].kind), .rv (I d.blocks[j].n), .rv a, .rv q, .rv s, .rv t]⟩] := ⟨_, rfl⟩
    have plA : PL hB hA n os oat inV A S lv l := by rw [ehA, List.append_assoc]; exact pl.app _
    have hp33 : hA[h.length]? = some ⟨0, 1, [ai (j : Nat)]⟩ := by rw [ehA]; exact get_old (get_new _) _
    have hp35 : hA[(h ++ [(⟨0, 1, [ai 0]⟩ : Ob)]).length]? = some ⟨0, 1, [.rv (I d.blocks[j].kind), .rv (I d.blocks[j].n), .rv a, .rv q, .rv s, .rv t]⟩ := by
      rw [ehA]
      simp
    have fixed : ∀ (h' : Hp) (inV' : AV) (A' : List Int) (S' : List Nat) (lv' : AV) (l' : List LR), PL hB h' n os oat inV' A' S' lv' l' → h'[0]? = some ⟨0, 1, [.rv p, .rv r, .rv v, .rv b]⟩ ∧ TreeAt par P n h' to oi oo i o ∧ h'[pt]? = some ⟨0, 1, [.ptr to 0 0]⟩ := by
      intro h' inV' A' S' lv' l' pl'
      refine ⟨?_, tr.mono fun q hq => ?_, ?_⟩
      · obtain ⟨x1, x2⟩ := hne 0 (.inl rfl)
        rw [pl'.fx 0 (get_lt hc) x1 x2]; exact hc
      · have hq' : q = 0 ∨ q = to ∨ q = oi ∨ q = oo ∨ q = pt := by
          rcases hq with h | h | h
          · exact .inr (.inl h)
          · exact .inr (.inr (.inl h))
          · exact .inr (.inr (.inr (.inl h)))
        obtain ⟨x1, x2⟩ := hne q hq'
        refine pl'.fx q ?_ x1 x2
        rcases hq with rfl | rfl | rfl
        · exact get_lt tr.t
        · exact get_lt tr.oi
        · exact get_lt tr.oo
      · obtain ⟨x1, x2⟩ := hne pt (.inr (.inr (.inr (.inr rfl))))
        rw [pl'.fx pt (get_lt hpt) x1 x2]; exact hpt
    obtain ⟨fc, ftr, fpt⟩ := fixed hA inV A S lv l plA
    have hasks : Asks slices_IndexFunc_int_G hA (.func id_flow_Loops_c1 [] [.ptr pt 0 0, .ptr h.length 0 0]) d.blocks[j].preds (fun n => decide (Anc par n.toNat j)) := by
      by_cases hjP : j ∈ P
      · refine Over_asks ftr fpt hp33 hjP fun z hz => ?_
        obtain ⟨m', rfl, hm'⟩ := hpn j _ (List.getElem?_eq_getElem hjl) z hz
        refine ⟨m', rfl, hpP j hjP m' ?_⟩
        rw [prd_at hjl, List.mem_map]
        exact ⟨_, hz, by simp⟩
      · have := hhole j (by omega) hjP
        rw [prd_at hjl, List.map_eq_nil_iff] at this
        rw [this]
        intro z hz
        cases hz
    obtain ⟨l', hcf⟩ := ContainsFunc_spec k2 hasks
    have hany : d.blocks[j].preds.any (fun n => decide (Anc par n.toNat j)) = decide (IsHead d.blocks par j) := by
      rw [Bool.eq_iff_iff, List.any_eq_true, decide_eq_true_eq]
      unfold IsHead
      rw [prd_at hjl]
      simp only [List.mem_map, decide_eq_true_eq]
      constructor
      · rintro ⟨x, hx, ha⟩
        exact ⟨x.toNat, ⟨x, hx, rfl⟩, ha⟩
      · rintro ⟨_, ⟨x, hx, rfl⟩, ha⟩
        exact ⟨x, hx, ha⟩
    have plC := plA.app l'
    have next : ∀ (h : Hp) (inV : AV) (A : List Int) (S : List Nat) (lv : AV) (l : List LR), PL hB h n os oat inV A S lv l → Upto d.blocks par (j + 1) l → Z (flow_Loops_p16295 k N M (.ptr 0 0 0) (.ptr pt 0 0) (.ptr os 0 0) lv (.rv b) n j h) := by
      intro h inV A S lv l pl up
      rw [flow_Loops_p16295_eq, wri_succ (by omega)]
      exact ih (j + 1) N h inV A S lv l (by omega) (by omega) pl up
    rw [flow_Loops_l2036_eq, bsp_of (decide_eq_true (by omega)), hbx, ldg6, e1, e1, s1, s2, ← ehA, pad_ptr, ldv_at hp35 (x := .rv q) rfl, callG_ret hcf, asBool_b, hany]
    by_cases hH : IsHead d.blocks par j
    · have hjP : j ∈ P := by
        apply Classical.byContradiction
        intro hjP
        obtain ⟨x, hx, _⟩ := hH
        rw [hhole j (by omega) hjP] at hx
        cases hx
      obtain ⟨gc, gtr, gpt⟩ := fixed _ _ _ _ _ _ plC
      have hp33' := get_old hp33 l'
      have clr : ∀ q, q = to ∨ q = oi ∨ q = oo → q ≠ os ∧ q ≠ oat ∧ own inV ≠ some q := by
        intro q hq
        have hq' : q = 0 ∨ q = to ∨ q = oi ∨ q = oo ∨ q = pt := by
          rcases hq with h | h | h
          · exact .inr (.inl h)
          · exact .inr (.inr (.inl h))
          · exact .inr (.inr (.inr (.inl h)))
        obtain ⟨x1, x2⟩ := hne q hq'
        refine ⟨x1, x2, fun e => ?_⟩
        have := pl.iown q e
        have : q < hB.length := by
          rcases hq with rfl | rfl | rfl
          · exact get_lt tr.t
          · exact get_lt tr.oi
          · exact get_lt tr.oo
        omega
      obtain ⟨h2, ob, inV2, A2, S2, er, hob, hge, hset2, hno, hkp, hmem⟩ := body_spec (p := p) (r := r) (v := v) hb hn hsh hjP (hpP j hjP) hpn gtr plC.set clr
      obtain ⟨pl2, hlt2⟩ := plC.body hset2 hkp
      have hCl : h.length < (hA ++ l').length := by rw [ehA]; simp
      have hhB := pl.olt.2.2
      have hp2 : h2[h.length]? = some ⟨0, 1, [ai (j : Nat)]⟩ := by
        rw [hkp.2.1 h.length hCl (by have := pl.olt; omega) (by have := pl.olt; omega) fun e => by have := pl.set.ins.ownlt e; omega]
        exact hp33'
      have hll := up.len
      let x : LR := ⟨j, ob, sortL (S2.map Int.ofNat)⟩
      have hxl : x.body.length = S2.length := by simp [x, sortL_length]
      have hx : hB.length ≤ x.ob ∧ h2[x.ob]? = some ⟨1, 1, x.body.map ai⟩ ∧ own inV2 ≠ some x.ob ∧ own lv ≠ some x.ob := by
        refine ⟨?_, hob, hno, fun e => ?_⟩
        · have : hB.length ≤ (hA ++ l').length := plC.olt.2.2
          show hB.length ≤ ob
          omega
        · have := hlt2 _ e
          have : ob < (hA ++ l').length := this
          omega
      obtain ⟨w, h3, hK, pl3⟩ := pl2.push (x := x) (by omega) hx fun y hy => by
        have := get_lt (plC.bo y hy).2.1
        show y.ob ≠ ob
        omega
      have e5 : ∀ (K : AV → Option (ARes × Hp)), bld [ai 0, ai 0, ai 0, .rv .nils] [(some (0, 1), ai (j : Nat)), (some (1, 1), ai (-1)), (some (3, 1), .sl ob 1 0 S2.length)] K = K (.agg [ai (j : Nat), ai (-1), ai 0, .sl ob 1 0 S2.length]) := fun K => rfl
      have e6 : ∀ (K : AV → Hp → Option (ARes × Hp)), bsl 4 1 [ai 0, ai 0, ai 0, .rv .nils] [(some (0, 4), .agg [ai (j : Nat), ai (-1), ai 0, .sl ob 1 0 S2.length])] h2 K = K (.sl h2.length 0 0 1) (h2 ++ [⟨0, 4, [ai (j : Nat), ai (-1), ai 0, .sl ob 1 0 S2.length]⟩]) := fun K => rfl
      have hK' : ∀ (K : AV → Hp → Option (ARes × Hp)), apn 4 48 (h2 ++ [⟨0, 4, [ai (j : Nat), ai (-1), ai 0, .sl ob 1 0 S2.length]⟩]) lv (.sl h2.length 0 0 1) K = K w h3 := by
        intro K
        have := hK K
        rw [hxl] at this
        exact this
      rw [bsp_of (decide_eq_true hH), ldi_at (n := (j : Int)) hp33' rfl, ldg_at (n := 4) gc rfl, ldv_at gpt (x := .ptr to 0 0) rfl, ldi_at (n := (j : Int)) hp33' rfl, callG_ret er, sv1_at hp2 rfl, e5, e6, hK']
      refine next h3 inV2 A2 S2 w _ pl3 (up.push hH rfl ⟨sortL_up _ ?_, fun y => ?_⟩)
      · rw [List.nodup_iff_pairwise_ne, List.pairwise_map]
        exact (List.nodup_iff_pairwise_ne.1 hset2.nd).imp fun h e => h (Int.ofNat.inj e)
      · rw [sortL_mem, List.mem_map]
        constructor
        · rintro ⟨z, hz, rfl⟩
          exact ⟨z, rfl, (hmem z).1 hz⟩
        · rintro ⟨z, rfl, hz⟩
          exact ⟨z, (hmem z).2 hz, rfl⟩
    · rw [bsp_not (decide_eq_false hH)]
      exact next _ inV A S lv l plC (up.skip hH)
end
end Go.Proofs.Ytknphnmhjmejaaa
/-  The walk of the loops: their outer ones, their depths; what the function tells. No conditions. -/
namespace Go.Proofs.Ytknphnmhjmejaaa
set_option linter.unusedVariables false
/-- What a loop's outer one is, so far. -/
def ostep (l : List LR) (i : Nat) (o : Int) (k : Nat) : Int :=
  match l[i]?, l[k]? with
  | some x, some y => if k ≠ i ∧ (x.head : Int) ∈ y.body ∧ (o < 0 ∨ y.body.length < ((l[o.toNat]?).map (·.body.length)).getD 0) then k else o
  | _, _ => o
def ofold (l : List LR) (i k : Nat) : Int := (List.range k).foldl (ostep l i) (-1)
def ofin (l : List LR) (i : Nat) : Int := ofold l i l.length
theorem ofold_succ (l : List LR) (i k : Nat) : ofold l i (k + 1) = ostep l i (ofold l i k) k := by simp [ofold, List.range_succ]
theorem ofold_ok (l : List LR) (i : Nat) : ∀ k, ofold l i k = -1 ∨ ∃ (j : Nat) (x y : LR), ofold l i k = j ∧ j < k ∧ l[i]? = some x ∧ l[j]? = some y ∧ j ≠ i ∧ (x.head : Int) ∈ y.body
  | 0 => .inl rfl
  | k + 1 => by
    have ih := ofold_ok l i k
    rw [ofold_succ]
    have old : ofold l i k = -1 ∨ ∃ (j : Nat) (x y : LR), ofold l i k = j ∧ j < k + 1 ∧ l[i]? = some x ∧ l[j]? = some y ∧ j ≠ i ∧ (x.head : Int) ∈ y.body := by
      rcases ih with h | ⟨j, x, y, h1, h2, h3⟩
      · exact .inl h
      · exact .inr ⟨j, x, y, h1, by omega, h3⟩
    unfold ostep
    split
    · rename_i x y hx hy
      split
      · rename_i hc
        exact .inr ⟨k, x, y, rfl, by omega, hx, hy, hc.1, hc.2.1⟩
      · exact old
    · exact old
def OS (l : List LR) (i k : Nat) : Nat → Int := fun t => if t < i then ofin l t else if t = i then ofold l i k else -1
theorem OS_next (l : List LR) (i : Nat) : OS l i l.length = OS l (i + 1) 0 := by
  funext t
  unfold OS
  by_cases h1 : t < i
  · rw [if_pos h1, if_pos (by omega)]
  · rw [if_neg h1]
    by_cases h2 : t = i
    · subst h2
      rw [if_pos rfl, if_pos (by omega)]
      rfl
    · rw [if_neg h2, if_neg (by omega)]
      split <;> rfl
theorem OS_start (l : List LR) : OS l 0 0 = fun _ => -1 := by
  funext t
  unfold OS
  rw [if_neg (by omega)]
  split <;> rfl
structure LS (h : Hp) (ol vl : Nat) (l : List LR) (outs ds : Nat → Int) (cells : List AV) : Prop where
  lc : LC h ol vl l outs ds cells
  bo : ∀ x ∈ l, x.ob ≠ ol ∧ h[x.ob]? = some ⟨1, 1, x.body.map ai⟩
  dis : l.Pairwise fun x y => x.ob ≠ y.ob
theorem LS.set1 {h : Hp} {ol vl : Nat} {l : List LR} {outs ds : Nat → Int} {cells : List AV} (k : LS h ol vl l outs ds cells) (i : Nat) (v : Int) : LS (h.set ol ⟨vl, 4, cells.set (i * 4 + 1) (ai v)⟩) ol vl l (fun t => if t = i then v else outs t) ds (cells.set (i * 4 + 1) (ai v)) := by
  refine ⟨⟨get_set_eq k.lc.ob, by rw [List.length_set]; exact k.lc.len, fun t x hx => ?_, fun t x hx => ?_, fun t x hx => ?_, fun t x hx => ?_⟩, fun x hx => ⟨(k.bo x hx).1, get_set_ne (fun e => (k.bo x hx).1 e.symm) (k.bo x hx).2⟩, k.dis⟩
  · rw [List.getElem?_set_ne (by omega)]; exact k.lc.c0 t x hx
  · by_cases e : t = i
    · subst e
      have := (List.getElem?_eq_some_iff.1 hx).1
      simp only [if_true]
      rw [List.getElem?_set_self (by rw [k.lc.len]; omega)]
    · simp only [if_neg e]
      rw [List.getElem?_set_ne (by omega)]; exact k.lc.c1 t x hx
  · rw [List.getElem?_set_ne (by omega)]; exact k.lc.c2 t x hx
  · rw [List.getElem?_set_ne (by omega)]; exact k.lc.c3 t x hx
theorem LS.set2 {h : Hp} {ol vl : Nat} {l : List LR} {outs ds : Nat → Int} {cells : List AV} (k : LS h ol vl l outs ds cells) (i : Nat) (v : Int) : LS (h.set ol ⟨vl, 4, cells.set (i * 4 + 2) (ai v)⟩) ol vl l outs (fun t => if t = i then v else ds t) (cells.set (i * 4 + 2) (ai v)) := by
  refine ⟨⟨get_set_eq k.lc.ob, by rw [List.length_set]; exact k.lc.len, fun t x hx => ?_, fun t x hx => ?_, fun t x hx => ?_, fun t x hx => ?_⟩, fun x hx => ⟨(k.bo x hx).1, get_set_ne (fun e => (k.bo x hx).1 e.symm) (k.bo x hx).2⟩, k.dis⟩
  · rw [List.getElem?_set_ne (by omega)]; exact k.lc.c0 t x hx
  · rw [List.getElem?_set_ne (by omega)]; exact k.lc.c1 t x hx
  · by_cases e : t = i
    · subst e
      have := (List.getElem?_eq_some_iff.1 hx).1
      simp only [if_true]
      rw [List.getElem?_set_self (by rw [k.lc.len]; omega)]
    · simp only [if_neg e]
      rw [List.getElem?_set_ne (by omega)]; exact k.lc.c2 t x hx
  · rw [List.getElem?_set_ne (by omega)]; exact k.lc.c3 t x hx
section
variable {ol vl : Nat} {l : List LR}
theorem outer_inner (hl : l.length ≤ 4096) (hs : ∀ x ∈ l, x.body.Pairwise (· < ·) ∧ x.body.length < 1000000000) (kk N4 M4 M i : Nat) (hi : i < l.length) (Z : Option (ARes × Hp) → Prop)
    (outer : ∀ h cells, LS h ol vl l (OS l i l.length) (fun _ => 0) cells → Z (flow_Loops_p32679 kk N4 M4 (.sl ol vl 0 l.length) l.length i h)) :
    ∀ (m k N : Nat) (h : Hp) (cells : List AV), k + m = l.length → m < N → LS h ol vl l (OS l i k) (fun _ => 0) cells → Z (flow_Loops_l1045708 kk N4 M4 N M (.sl ol vl 0 l.length) i l.length i l.length k h) := by
  intro m
  induction m with
  | zero =>
    intro k N h cells hk hN ls
    obtain ⟨N, rfl⟩ : ∃ q, N = q + 1 := ⟨N - 1, by omega⟩
    obtain rfl : k = l.length := by omega
    rw [flow_Loops_l1045708_eq, bsp_not (decide_eq_false (by omega))]
    exact outer h cells ls
  | succ m ih =>
    intro k N h cells hk hN ls
    obtain ⟨N, rfl⟩ : ∃ q, N = q + 1 := ⟨N - 1, by omega⟩
    have hkl : k < l.length := by omega
    have hx := List.getElem?_eq_getElem hi
    have hy := List.getElem?_eq_getElem hkl
    have hym := List.getElem_mem hkl
    obtain ⟨hys, hyl⟩ := hs _ hym
    have hyb := (ls.bo _ hym).2
    have lc := ls.lc
    have ht : toRV h depthA (.sl l[k].ob 1 0 l[k].body.length) = some (.ros (ints l[k].body) l[k].body.length) := toRV_ints hyb
    obtain ⟨j, hbs⟩ := BinarySearch_spec (isInts_of l[k].body hyl) hys (l[i].head : Nat)
    have e1 : ∀ (K : AV → Option (ARes × Hp)) (a b : RV), xtr (.rv (.tuple [a, b])) 0 K = K (.rv a) := fun K a b => rfl
    have e2 : ∀ (K : AV → Option (ARes × Hp)) (a b : RV), xtr (.rv (.tuple [a, b])) 1 K = K (.rv b) := fun K a b => rfl
    have hoi : OS l i k i = ofold l i k := by unfold OS; rw [if_neg (by omega), if_pos rfl]
    -- what comes behind
    have next : ∀ c : Bool, (c = true ↔ k ≠ i ∧ (l[i].head : Int) ∈ l[k].body ∧ (ofold l i k < 0 ∨ l[k].body.length < ((l[(ofold l i k).toNat]?).map (·.body.length)).getD 0)) → Z (flow_Loops_p133850727 kk N4 M4 N M (.sl ol vl 0 l.length) i k l.length i l.length k c h) := by
      intro c hc
      have hst : ofold l i (k + 1) = if c = true then (k : Int) else ofold l i k := by
        rw [ofold_succ]
        unfold ostep
        rw [hx, hy]
        simp only
        by_cases h1 : c = true
        · rw [if_pos h1, if_pos (hc.1 h1)]
        · rw [if_neg h1, if_neg fun h2 => h1 (hc.2 h2)]
      cases c with
      | true =>
        have hS := ls.set1 i (k : Int)
        have : (fun t => if t = i then (k : Int) else OS l i k t) = OS l i (k + 1) := by
          funext t
          by_cases e : t = i
          · subst e
            rw [if_pos rfl]
            unfold OS
            rw [if_neg (by omega), if_pos rfl, hst]
            rfl
          · rw [if_neg e]
            unfold OS
            simp only [if_neg e]
        rw [this] at hS
        rw [flow_Loops_p133850727_eq, bsp_of rfl, sl_atn hi, pad_ptr, stv_at lc.ob (by rw [lc.len]; omega) rfl rfl, flow_Loops_p8365671_eq, wri_succ (by omega)]
        exact ih (k + 1) N _ _ (by omega) (by omega) hS
      | false =>
        have : OS l i k = OS l i (k + 1) := by
          funext t
          unfold OS
          rw [hst]
          rfl
        rw [this] at ls
        rw [flow_Loops_p133850727_eq, bsp_not rfl, flow_Loops_p8365671_eq, wri_succ (by omega)]
        exact ih (k + 1) N _ _ (by omega) (by omega) ls
    rw [flow_Loops_l1045708_eq, bsp_of (decide_eq_true (by omega)), sl_atn hkl, pad_ptr, ldv_at lc.ob (lc.c3 k _ hy), sl_atn hi, pad_ptr, Nat.add_zero, ldi_at lc.ob (n := (l[i].head : Nat)) (lc.c0 i _ hx), callP_ret (rs := [.ros (ints l[k].body) l[k].body.length, I (l[i].head : Nat)]) (by simp only [List.mapM_cons, List.mapM_nil, ht]; rfl) hbs (.inr rfl), e1, asInt_i, e2, asBool_b]
    by_cases hki : k = i
    · rw [bsp_not (by rw [bne_eq_false_iff_eq]; omega)]
      exact next false ⟨fun h => (by cases h), fun h => absurd hki h.1⟩
    · rw [bsp_of (by rw [bne_iff_ne]; omega)]
      by_cases hin : (l[i].head : Int) ∈ l[k].body
      · rw [bsp_of (decide_eq_true hin), sl_atn hi, pad_ptr, ldi_at lc.ob (lc.c1 i _ hx), hoi]
        rcases ofold_ok l i k with ho | ⟨j0, x0, y0, ho, hj0, _, hy0, _⟩
        · rw [ho, bsp_of (by rfl)]
          exact next true ⟨fun _ => ⟨hki, hin, .inl (by rw [ho]; omega)⟩, fun _ => rfl⟩
        · have hj0l : j0 < l.length := by omega
          rw [ho, bsp_not (decide_eq_false (by omega)), sl_atn hkl, pad_ptr, ldv_at lc.ob (lc.c3 k _ hy), sl_len, sl_atn hi, pad_ptr, ldi_at lc.ob (lc.c1 i _ hx), hoi, ho, sl_atn hj0l, pad_ptr, ldv_at lc.ob (lc.c3 j0 _ hy0), sl_len]
          refine next _ ?_
          rw [ho, Int.toNat_natCast, hy0, decide_eq_true_eq]
          simp only [Option.map_some, Option.getD_some]
          exact ⟨fun h => ⟨hki, hin, .inr (by omega)⟩, fun h => by omega⟩
      · rw [bsp_not (decide_eq_false hin)]
        exact next false ⟨fun h => (by cases h), fun h => absurd h.2.1 hin⟩
theorem outer_loop (hl : l.length ≤ 4096) (hs : ∀ x ∈ l, x.body.Pairwise (· < ·) ∧ x.body.length < 1000000000) (kk M : Nat) (hk : 1000000000 < kk) (Z : Option (ARes × Hp) → Prop)
    (outer : ∀ h cells, LS h ol vl l (OS l l.length 0) (fun _ => 0) cells → Z (flow_Loops_p511 kk (.sl ol vl 0 l.length) h)) :
    ∀ (m i N : Nat) (h : Hp) (cells : List AV), i + m = l.length → m < N → LS h ol vl l (OS l i 0) (fun _ => 0) cells → Z (flow_Loops_l4084 kk N M (.sl ol vl 0 l.length) l.length i h) := by
  intro m
  induction m with
  | zero =>
    intro i N h cells hi hN ls
    obtain ⟨N, rfl⟩ : ∃ q, N = q + 1 := ⟨N - 1, by omega⟩
    obtain rfl : i = l.length := by omega
    rw [flow_Loops_l4084_eq, bsp_not (decide_eq_false (by omega))]
    exact outer h cells ls
  | succ m ih =>
    intro i N h cells hi hN ls
    obtain ⟨N, rfl⟩ : ∃ q, N = q + 1 := ⟨N - 1, by omega⟩
    rw [flow_Loops_l4084_eq, bsp_of (decide_eq_true (by omega)), sl_len, show ((0 : Int)) = ((0 : Nat) : Int) from rfl]
    refine outer_inner hl hs kk N M _ i (by omega) Z (fun h cells ls => ?_) l.length 0 kk h cells (by omega) (by omega) ls
    rw [flow_Loops_p32679_eq, wri_succ (by omega)]
    rw [OS_next] at ls
    exact ih (i + 1) N h cells (by omega) (by omega) ls
def DS (dep : Nat → Nat) (i : Nat) : Nat → Int := fun t => if t < i then (dep t : Int) else 0
theorem depth_loop (hl : l.length ≤ 4096) (dep : Nat → Nat) (hdep : ∀ i, i < l.length → Deep (ofin l) i (dep i) ∧ dep i < 1000000000) (kk M : Nat) (Z : Option (ARes × Hp) → Prop)
    (outer : ∀ h cells, LS h ol vl l (ofin l) (DS dep l.length) cells → Z (flow_Loops_p1023 kk (.sl ol vl 0 l.length) h)) :
    ∀ (m i N : Nat) (h : Hp) (cells : List AV), i + m = l.length → m < N → LS h ol vl l (ofin l) (DS dep i) cells → Z (flow_Loops_l8180 kk N M (.sl ol vl 0 l.length) l.length i h) := by
  intro m
  induction m with
  | zero =>
    intro i N h cells hi hN ls
    obtain ⟨N, rfl⟩ : ∃ q, N = q + 1 := ⟨N - 1, by omega⟩
    obtain rfl : i = l.length := by omega
    rw [flow_Loops_l8180_eq, bsp_not (decide_eq_false (by omega))]
    exact outer h cells ls
  | succ m ih =>
    intro i N h cells hi hN ls
    obtain ⟨N, rfl⟩ : ∃ q, N = q + 1 := ⟨N - 1, by omega⟩
    have hil : i < l.length := by omega
    obtain ⟨hd, hb⟩ := hdep i hil
    have lc := ls.lc
    have hdp := deep_spec (outs := ofin l) lc.ob (fun t ht => lc.c1 t _ (List.getElem?_eq_getElem ht)) (fun t ht => by
      rcases ofold_ok l t l.length with h | ⟨j, _, _, h, hj, _⟩
      · show ofold l t l.length < _
        omega
      · show ofold l t l.length < _
        omega) hd hil hb
    rw [flow_Loops_l8180_eq, bsp_of (decide_eq_true (by omega)), callG_ret hdp, asInt_i, sl_atn hil, pad_ptr, stv_at lc.ob (by rw [lc.len]; omega) rfl rfl, wri_succ (by omega)]
    have hS := ls.set2 i (dep i : Int)
    have : (fun t => if t = i then (dep i : Int) else DS dep i t) = DS dep (i + 1) := by
      funext t
      unfold DS
      by_cases e : t = i
      · subst e
        rw [if_pos rfl, if_pos (by omega)]
      · rw [if_neg e]
        by_cases e2 : t < i
        · rw [if_pos e2, if_pos (by omega)]
        · rw [if_neg e2, if_neg (by omega)]
    rw [this] at hS
    exact ih (i + 1) N _ _ (by omega) (by omega) hS
/-- The loops told. -/
def lpOf (l : List LR) (dep : Nat → Nat) (i : Nat) : Lp := match l[i]? with
  | some x => ⟨x.head, ofin l i, dep i, x.body⟩
  | none => ⟨0, 0, 0, []⟩
def lpsOf (l : List LR) (dep : Nat → Nat) : List Lp := (List.range l.length).map (lpOf l dep)
theorem lpsOf_len (l : List LR) (dep : Nat → Nat) : (lpsOf l dep).length = l.length := by simp [lpsOf]
theorem lpsOf_at {l : List LR} {dep : Nat → Nat} {i : Nat} {x : LR} (hx : l[i]? = some x) : (lpsOf l dep)[i]? = some ⟨x.head, ofin l i, dep i, x.body⟩ := by
  have := (List.getElem?_eq_some_iff.1 hx).1
  rw [lpsOf, List.getElem?_map, List.getElem?_range this]
  simp only [Option.map_some, lpOf, hx]
theorem loops_rv (e : Nat) {h : Hp} {cells : List AV} (hl : l.length ≤ 4096) (hs : ∀ x ∈ l, x.body.length < 1000000000) (dep : Nat → Nat) (ls : LS h ol vl l (ofin l) (DS dep l.length) cells) :
    ∃ x, toRV h (e + 4) (.sl ol vl 0 l.length) = some x ∧ IsRows 4 IsLp x (lpsOf l dep) := by
  have lc := ls.lc
  have key : ∀ (m i : Nat), i + m = l.length → ∃ cs, (cells.drop (i * 4)).mapM (toRV h (e + 3)) = some cs ∧ Rows 4 IsLp cs ((List.range' i m).map (lpOf l dep)) := by
    intro m
    induction m with
    | zero =>
      intro i hi
      rw [List.drop_eq_nil_of_le (by rw [lc.len]; omega)]
      exact ⟨[], rfl, .nil⟩
    | succ m ih =>
      intro i hi
      have hil : i < l.length := by omega
      have hx := List.getElem?_eq_getElem hil
      obtain ⟨cs, h1, h2⟩ := ih (i + 1) (by omega)
      have g0 := lc.c0 i _ hx
      have g1 := lc.c1 i _ hx
      have g2 := lc.c2 i _ hx
      have g3 := lc.c3 i _ hx
      have l0 := (List.getElem?_eq_some_iff.1 g0)
      have l1 := (List.getElem?_eq_some_iff.1 g1)
      have l2 := (List.getElem?_eq_some_iff.1 g2)
      have l3 := (List.getElem?_eq_some_iff.1 g3)
      have hd : cells.drop (i * 4) = ai (l[i].head : Nat) :: ai (ofin l i) :: ai (DS dep l.length i) :: .sl l[i].ob 1 0 l[i].body.length :: cells.drop ((i + 1) * 4) := by
        rw [List.drop_eq_getElem_cons l0.1, List.drop_eq_getElem_cons l1.1, List.drop_eq_getElem_cons l2.1, List.drop_eq_getElem_cons l3.1, l0.2, l1.2, l2.2, l3.2, show (i + 1) * 4 = i * 4 + 3 + 1 by omega]
      obtain ⟨bx, hbx, hbi⟩ := (IntsJ.mk (h := h) (o := l[i].ob) (v := 1) (xs := l[i].body) (junk := []) (by rw [List.append_nil]; exact (ls.bo _ (List.getElem_mem hil)).2)).done2 (hs _ (List.getElem_mem hil))
      refine ⟨I (l[i].head : Nat) :: I (ofin l i) :: I (dep i : Nat) :: bx :: cs, ?_, ?_⟩
      · have hbe : toRV h (e + 3) (.sl l[i].ob 1 0 l[i].body.length) = some bx := hbx (e + 1)
        have t1 : ∀ x : RV, toRV h (e + 3) (.rv x) = some x := fun _ => rfl
        have hdi : DS dep l.length i = (dep i : Nat) := by unfold DS; rw [if_pos hil]
        rw [hd, hdi]
        simp only [List.mapM_cons, h1, hbe, t1]
        rfl
      · rw [List.range'_succ, List.map_cons]
        have : Rows 4 IsLp ([I (l[i].head : Nat), I (ofin l i), I (dep i : Nat), bx] ++ cs) (lpOf l dep i :: (List.range' (i + 1) m).map (lpOf l dep)) := .cons rfl ⟨bx, by simp [lpOf, hx], by simpa [lpOf, hx] using hbi⟩ h2
        exact this
  obtain ⟨cs, h1, h2⟩ := key l.length 0 (by omega)
  rw [Nat.zero_mul, List.drop_zero] at h1
  rw [← List.range_eq_range'] at h2
  refine ⟨.ros cs l.length, ?_, ?_⟩
  · simp only [toRV, lc.ob]
    rw [if_pos (by rw [lc.len]; exact ⟨trivial, by omega⟩), List.drop_zero, List.take_of_length_le (by rw [lc.len]; omega), h1]
    rfl
  · have := IsRows.mk h2 (by simp; omega)
    simpa [lpsOf] using this
end
end Go.Proofs.Ytknphnmhjmejaaa
