/-  Which blocks lead to which: the program's way to ask, and the page's. Copies, sorted; lists compared. No conditions. -/
import Derived.Test.YtknphnmhjmejaaaHc
import Derived.Test.YtknphnmhjmejaaaSortL
import Derived.Test.YtknphnmhjmejaaaGb3
namespace Go.Proofs.Ytknphnmhjmejaaa
set_option linter.unusedVariables false
/-! ### Plain -/
/-- From where a block is led to, by blocks in their order, the first i of them. -/
def froms (bs : List Blk) : Nat → Int → List Int
  | 0, _ => []
  | i + 1, n => froms bs i n ++ (match bs[i]? with | some b => List.replicate (b.succs.count n) (i : Int) | none => [])
theorem froms_mem {bs : List Blk} {n : Int} : ∀ {i : Nat} {x : Int}, x ∈ froms bs i n → 0 ≤ x ∧ x < i
  | 0, x, h => by simp [froms] at h
  | i + 1, x, h => by
    simp only [froms, List.mem_append] at h
    rcases h with h | h
    · have := froms_mem h; omega
    · split at h
      · rw [List.mem_replicate] at h; omega
      · simp at h
theorem froms_sorted {bs : List Blk} {n : Int} : ∀ i : Nat, (froms bs i n).Pairwise fun x y => decide (x ≤ y) = true
  | 0 => by simp [froms]
  | i + 1 => by
    simp only [froms]
    rw [List.pairwise_append]
    refine ⟨froms_sorted i, ?_, ?_⟩
    · split
      · rw [List.pairwise_replicate]; right; simp
      · simp
    · intro a ha b hb
      have := froms_mem ha
      split at hb
      · rw [List.mem_replicate] at hb
        simp; omega
      · simp at hb
theorem froms_count {bs : List Blk} {n : Int} {m : Nat} : ∀ {i : Nat}, (froms bs i n).count (m : Int) = if m < i then (match bs[m]? with | some b => b.succs.count n | none => 0) else 0
  | 0 => by simp [froms]
  | i + 1 => by
    simp only [froms, List.count_append, froms_count (i := i)]
    by_cases h : m = i
    · subst h
      rw [if_neg (by omega), if_pos (by omega)]
      cases bs[m]? with
      | none => simp
      | some b => simp
    · have e : (match bs[i]? with | some b => List.replicate (b.succs.count n) (i : Int) | none => []).count (m : Int) = 0 := by
        rw [List.count_eq_zero]
        split
        · rw [List.mem_replicate]; omega
        · simp
      rw [e]
      by_cases h2 : m < i
      · rw [if_pos h2, if_pos (by omega)]; omega
      · rw [if_neg h2, if_neg (by omega)]
def froms' (bs : List Blk) (i j : Nat) (n : Int) : List Int := froms bs i n ++ (match bs[i]? with | some b => List.replicate ((b.succs.take j).count n) (i : Int) | none => [])
theorem froms'_zero {bs : List Blk} {i : Nat} {n : Int} : froms' bs i 0 n = froms bs i n := by
  unfold froms'
  split <;> simp
theorem froms'_end {bs : List Blk} {i j : Nat} {b : Blk} (hb : bs[i]? = some b) (hj : b.succs.length ≤ j) {n : Int} : froms' bs i j n = froms bs (i + 1) n := by
  unfold froms'
  rw [froms, hb]
  simp only
  rw [List.take_of_length_le hj]
theorem froms'_succ {bs : List Blk} {i j : Nat} {b : Blk} {s : Int} (hb : bs[i]? = some b) (hj : b.succs[j]? = some s) {n : Int} : froms' bs i (j + 1) n = if s = n then froms' bs i j n ++ [(i : Int)] else froms' bs i j n := by
  unfold froms'
  rw [hb]
  simp only
  rw [List.take_add_one, hj, List.count_append]
  by_cases h : s = n
  · subst h
    rw [if_pos rfl, List.append_assoc, ← List.replicate_succ']
    simp
  · rw [if_neg h]
    simp [h]
theorem sortL_perm (l : List Int) : (sortL l).Perm l := List.mergeSort_perm l _
theorem sortL_sorted (l : List Int) : (sortL l).Pairwise fun x y => decide (x ≤ y) = true :=
  List.pairwise_mergeSort (fun a b c h1 h2 => by simp at *; omega) (fun a b => by simp; omega) l
theorem sortL_froms {bs : List Blk} {l : List Int} {n : Int} (hl : ∀ x ∈ l, ∃ m : Nat, x = m ∧ m < bs.length) : sortL l = froms bs bs.length n ↔ ∀ (m : Nat) (b : Blk), bs[m]? = some b → l.count (m : Int) = b.succs.count n := by
  constructor
  · intro h m b hb
    rw [← (sortL_perm l).count_eq, h, froms_count, if_pos (List.getElem?_eq_some_iff.1 hb).1, hb]
  · intro h
    refine List.Perm.eq_of_pairwise (le := fun x y : Int => decide (x ≤ y) = true) (fun a b _ _ h1 h2 => by simp at h1 h2; omega) (sortL_sorted l) (froms_sorted _) ((sortL_perm l).trans ?_)
    rw [List.perm_iff_count]
    intro x
    by_cases hx : ∃ m : Nat, x = m ∧ m < bs.length
    · obtain ⟨m, rfl, hm⟩ := hx
      rw [froms_count, if_pos hm, List.getElem?_eq_getElem hm]
      exact h m bs[m] (List.getElem?_eq_getElem hm)
    · rw [List.count_eq_zero.2 (fun hm => hx (hl x hm)), List.count_eq_zero.2 (fun hm => ?_)]
      have := froms_mem hm
      exact hx ⟨x.toNat, by omega, by omega⟩
/-- Where a block leads by its kind. -/
def wants (k : Int) : Int := if k = 1 then 1 else if k = 2 then 2 else 0
/-- What the program asks of the flow of blocks that have the form. -/
structure FlowP (bs : List Blk) (P : List Nat) : Prop where
  head : ∀ b, bs[0]? = some b → b.kind ≠ 0
  succs : ∀ b ∈ bs, (b.succs.length : Int) = wants b.kind
  none : froms bs bs.length 0 = []
  preds : ∀ (n : Nat) (b : Blk), bs[n]? = some b → sortL b.preds = froms bs bs.length n
  all : P.length + bs.countP (fun b => b.kind == 0) = bs.length
theorem formOk_mem {bs : List Blk} (h : formOk bs = true) {b : Blk} (hb : b ∈ bs) : blkOk bs b = true := by
  simp only [formOk, Bool.and_eq_true, List.all_eq_true] at h
  exact h.2 b hb
theorem blkOk_hole {bs : List Blk} {b : Blk} (h : blkOk bs b = true) (hk : b.kind = 0) : b.preds = [] ∧ b.succs = [] := by
  unfold blkOk at h
  rw [if_pos hk] at h
  simpa using h
theorem blkOk_kind {bs : List Blk} {b : Blk} (h : blkOk bs b = true) (hk : b.kind ≠ 0) : succsOf b.kind = wants b.kind := by
  unfold blkOk at h
  rw [if_neg hk] at h
  simp only [Bool.and_eq_true, decide_eq_true_eq] at h
  have := h.1.1
  unfold succsOf at this ⊢
  unfold wants
  split
  · rfl
  · split
    · rfl
    · split
      · rfl
      · rename_i h1 h2 h3
        rw [if_neg h1, if_neg h2, if_neg h3] at this
        omega
theorem okNums_block {bs : List Blk} {l : List Int} (h : okNums bs l = true) : ∀ n ∈ l, ∃ (m : Nat) (b : Blk), n = m ∧ bs[m]? = some b ∧ b.kind ≠ 0 := by
  intro n hn
  simp only [okNums, List.all_eq_true, Bool.and_eq_true, decide_eq_true_eq] at h
  obtain ⟨h0, h1⟩ := h n hn
  cases e : bs[n.toNat]? with
  | none => rw [e] at h1; cases h1
  | some b => rw [e] at h1; exact ⟨n.toNat, b, by omega, e, by simpa using h1⟩
theorem blkOk_nums {bs : List Blk} {b : Blk} (h : blkOk bs b = true) : (∀ n ∈ b.preds, ∃ (m : Nat) (c : Blk), n = m ∧ bs[m]? = some c ∧ c.kind ≠ 0) ∧ (∀ n ∈ b.succs, ∃ (m : Nat) (c : Blk), n = m ∧ bs[m]? = some c ∧ c.kind ≠ 0) := by
  by_cases hk : b.kind = 0
  · obtain ⟨h1, h2⟩ := blkOk_hole h hk
    rw [h1, h2]
    simp
  · unfold blkOk at h
    rw [if_neg hk] at h
    simp only [Bool.and_eq_true] at h
    exact ⟨okNums_block h.1.2, okNums_block h.2⟩
theorem way_rch {bs : List Blk} (hok : okSuccs bs) {x : Nat} (hx : x < bs.length) {y : Nat} : Way (sucs bs) x y ↔ Rch bs (-1) x y := by
  constructor
  · intro w
    have : Rch bs (-1) x y ∧ y < bs.length := by
      induction w with
      | refl => exact ⟨.start, hx⟩
      | @step y z h e ih =>
        obtain ⟨ih1, ih2⟩ := ih
        have hz := sucs_lt hok y ih2 z e
        refine ⟨?_, hz⟩
        rw [sucs_at ih2, List.mem_map] at e
        obtain ⟨n, hn, rfl⟩ := e
        obtain ⟨m, rfl, hm⟩ := hok y bs[y] (List.getElem?_eq_getElem ih2) n hn
        exact .step ih1 (List.getElem?_eq_getElem ih2) (by simpa using hn) (by simp)
    exact this.1
  · intro r
    induction r with
    | start => exact .refl _
    | @step a n b r hb hn hw ih =>
      refine .step ih ?_
      obtain ⟨hl, e⟩ := List.getElem?_eq_some_iff.1 hb
      rw [sucs_at hl, List.mem_map]
      exact ⟨n, by rw [e]; exact hn, by simp⟩
theorem IsPost.mem {bs : List Blk} {P : List Nat} (h : IsPost bs P) (x : Nat) : x ∈ P ↔ Way (sucs bs) 0 x := by
  obtain ⟨S, h⟩ := h
  obtain ⟨N, Q, k⟩ := h.found
  have e : P = Q := by rw [k.p]; rfl
  have eS : S = N := by rw [k.s]; rfl
  constructor
  · intro hx
    obtain ⟨y, hy, w⟩ := k.rc x ((k.mem x).2 (e ▸ hx))
    simp at hy
    exact hy ▸ w
  · intro w
    induction w with
    | refl => rw [e, ← k.mem, ← eS]; exact k.ll 0 (by simp)
    | step _ hz ih => rw [e, ← k.mem, ← eS]; exact k.cl _ (e ▸ ih) _ hz
theorem count_blocks : ∀ (l : List Blk) (k : Nat) (f : Nat → Bool), (∀ i b, l[i]? = some b → f (k + i) = (b.kind != 0)) → ((List.range' k l.length).filter f).length + l.countP (fun b => b.kind == 0) = l.length
  | [], k, f, _ => by simp
  | b :: l, k, f, h => by
    have ih := count_blocks l (k + 1) f (fun i c hc => by
      have := h (i + 1) c (by simpa using hc)
      rwa [show k + (i + 1) = k + 1 + i by omega] at this)
    have h0 := h 0 b rfl
    rw [List.length_cons, List.range'_succ, List.filter_cons, List.countP_cons]
    rw [Nat.add_zero] at h0
    rw [h0]
    by_cases hk : b.kind = 0
    · simp [hk]; omega
    · have e1 : (b.kind != 0) = true := by simpa using hk
      have e2 : (b.kind == 0) = false := by simpa using hk
      rw [e1, e2]
      simp; omega
theorem flowP_iff {bs : List Blk} {P : List Nat} (hf : formOk bs = true) (hP : IsPost bs P) : FlowP bs P ↔ FlowOk bs := by
  have hok := formOk_succs hf
  have hl : 0 < bs.length := by
    simp only [formOk, Bool.and_eq_true, decide_eq_true_eq] at hf
    exact hf.1.1
  have h00 : bs[0]? = some bs[0] := List.getElem?_eq_getElem hl
  obtain ⟨hnd, hlt, _⟩ := hP.facts hok hl
  have mem : ∀ {m : Nat} {b : Blk}, bs[m]? = some b → b ∈ bs := fun h => List.mem_of_getElem? h
  have hpl : ∀ {n : Nat} {b : Blk}, bs[n]? = some b → ∀ x ∈ b.preds, ∃ m : Nat, x = m ∧ m < bs.length := by
    intro n b hb x hx
    obtain ⟨m, c, h1, h2, _⟩ := (blkOk_nums (formOk_mem hf (mem hb))).1 x hx
    exact ⟨m, h1, (List.getElem?_eq_some_iff.1 h2).1⟩
  let f : Nat → Bool := fun i => match bs[i]? with | some b => b.kind != 0 | none => false
  have hcnt := count_blocks bs 0 f (fun i b hb => by simp [f, hb])
  have hsub : bs[0].kind ≠ 0 → ∀ x ∈ P, x ∈ (List.range' 0 bs.length).filter f := by
    intro h0 x hx
    have hxl := hlt x hx
    rw [List.mem_filter, List.mem_range']
    refine ⟨⟨x, hxl, by simp⟩, ?_⟩
    have w := (hP.mem x).1 hx
    cases w with
    | refl => simp only [f, h00]; simpa using h0
    | @step y _ w e =>
      have hyl := w.lt (sucs_lt hok) hl
      rw [sucs_at hyl, List.mem_map] at e
      obtain ⟨n, hn, rfl⟩ := e
      obtain ⟨m, c, rfl, hc, hk⟩ := (blkOk_nums (formOk_mem hf (mem (List.getElem?_eq_getElem hyl)))).2 n hn
      simp only [f, Int.toNat_natCast, hc]
      simpa using hk
  constructor
  · intro k
    have cnt : ∀ (n : Nat) (b : Blk), bs[n]? = some b → ∀ (m : Nat) (c : Blk), bs[m]? = some c → b.preds.count (m : Int) = c.succs.count (n : Int) := fun n b hb => (sortL_froms (hpl hb)).1 (k.preds n b hb)
    refine ⟨fun b hb => ⟨k.head b hb, ?_⟩, fun i b hb hk => ⟨?_, ?_, ?_⟩, fun i b hb hk => ?_⟩
    · have := k.preds 0 b hb
      rw [show ((0 : Nat) : Int) = 0 from rfl, k.none] at this
      have h2 := (sortL_perm b.preds).length_eq
      rw [this] at h2
      exact List.length_eq_zero_iff.1 h2.symm
    · rw [blkOk_kind (formOk_mem hf (mem hb)) hk]
      exact k.succs b (mem hb)
    · intro s hs c hc
      obtain ⟨m, c', rfl, hc', _⟩ := (blkOk_nums (formOk_mem hf (mem hb))).2 s hs
      rw [Int.toNat_natCast] at hc
      exact cnt m c hc i b hb
    · intro p hp c hc
      obtain ⟨m, c', rfl, hc', _⟩ := (blkOk_nums (formOk_mem hf (mem hb))).1 p hp
      rw [Int.toNat_natCast] at hc
      rw [← cnt i b hb m c hc]
      have := List.count_pos_iff.2 hp
      omega
    · refine (way_rch hok hl).1 ((hP.mem i).1 ?_)
      apply Classical.byContradiction
      intro hno
      have h1 := nodup_sub_le (i :: P) ((List.range' 0 bs.length).filter f) (List.nodup_cons.2 ⟨hno, hnd⟩) (fun x hx => by
        rcases List.mem_cons.1 hx with rfl | hx
        · rw [List.mem_filter, List.mem_range']
          exact ⟨⟨_, (List.getElem?_eq_some_iff.1 hb).1, by simp⟩, by simp only [f, hb]; simpa using hk⟩
        · exact hsub (k.head _ h00) x hx)
      have := k.all
      simp at h1
      omega
  · intro k
    have cnt : ∀ (n : Nat) (b : Blk), bs[n]? = some b → ∀ (m : Nat) (c : Blk), bs[m]? = some c → b.preds.count (m : Int) = c.succs.count (n : Int) := by
      intro n b hb m c hc
      by_cases h1 : (n : Int) ∈ c.succs
      · have hk : c.kind ≠ 0 := fun hk => by rw [(blkOk_hole (formOk_mem hf (mem hc)) hk).2] at h1; simp at h1
        exact (k.join m c hc hk).2.1 n h1 b (by simpa using hb)
      · rw [List.count_eq_zero.2 h1, List.count_eq_zero]
        intro h2
        have hk : b.kind ≠ 0 := fun hk => by rw [(blkOk_hole (formOk_mem hf (mem hb)) hk).1] at h2; simp at h2
        exact (k.join n b hb hk).2.2 m h2 c (by simpa using hc) (List.count_eq_zero.2 h1)
    have hpr : ∀ (n : Nat) (b : Blk), bs[n]? = some b → sortL b.preds = froms bs bs.length n := fun n b hb => (sortL_froms (hpl hb)).2 (cnt n b hb)
    refine ⟨fun b hb => (k.head b hb).1, fun b hb => ?_, ?_, hpr, ?_⟩
    · by_cases hk : b.kind = 0
      · rw [(blkOk_hole (formOk_mem hf hb) hk).2, hk]; rfl
      · obtain ⟨i, hi⟩ := List.getElem?_of_mem hb
        rw [← blkOk_kind (formOk_mem hf hb) hk]
        exact (k.join i b hi hk).1
    · rw [show (0 : Int) = ((0 : Nat) : Int) from rfl, ← hpr 0 _ h00, (k.head _ h00).2]
      simp [sortL]
    · have h1 := nodup_sub_le _ _ hnd (hsub (k.head _ h00).1)
      have hnf : ((List.range' 0 bs.length).filter f).Nodup := List.Pairwise.filter _ List.nodup_range'
      have h2 := nodup_sub_le _ P hnf (fun x hx => by
        rw [List.mem_filter, List.mem_range'] at hx
        obtain ⟨⟨y, hy, rfl⟩, hx⟩ := hx
        rw [hP.mem]
        refine (way_rch hok hl).2 ?_
        simp only [f] at hx
        split at hx
        · rename_i b hb
          exact k.reach _ b hb (by simpa using hx)
        · cases hx)
      omega
/-! ### Copies, sorted; lists compared -/
theorem Clone_spec {v : RV} {xs : List Int} (hv : IsInts v xs) (h : Hp) : (v = .nils ∧ G_slices_Clone_int [.rv v] h = some (.ret (.rv .nils), h)) ∨
    ∃ l o ver, G_slices_Clone_int [.rv v] h = some (.ret (.sl o ver 0 xs.length), h ++ l) ∧ (h ++ l)[o]? = some ⟨ver, 1, xs.map ai⟩ ∧ h.length ≤ o := by
  unfold G_slices_Clone_int
  rw [slices_Clone_int_eq]
  cases hv with
  | nil => exact .inl ⟨rfl, rfl⟩
  | mk xs hl =>
    right
    have e1 : ∀ K : AV → Hp → Option (ARes × Hp), bsl 1 0 [.rv (.int .i64 0)] [] h K = K (.sl h.length 0 0 0) (h ++ [⟨0, 1, []⟩]) := fun K => rfl
    have e2 : wcells 1 (h ++ [(⟨0, 1, []⟩ : Ob)]) (.rv (.ros (ints xs) xs.length)) = some (xs.length, xs.map ai) := by
      have hz : (ints xs).length = xs.length := by simp [ints]
      simp only [wcells]
      rw [if_pos (by omega), List.take_of_length_le (by omega)]
      simp [ints]
    have e3 : ((0 + xs.length : Nat) : Int) ≤ room := by simp [room]; omega
    have e4 : ((8 : Nat) : Int) * ((0 + xs.length : Nat) : Int) ≤ room := by simp [room]; omega
    refine ⟨[⟨1, 1, xs.map ai⟩], h.length, 1, ?_, get_new _, Nat.le_refl _⟩
    have e0 : ∀ (K : Bool → Option (ARes × Hp)), nilEq false 2 (.rv (.ros (ints xs) xs.length)) K = K false := fun K => rfl
    rw [e0, bsp_not rfl, e1]
    simp only [apn, e2, get_new]
    rw [if_pos ⟨trivial, trivial, trivial, by simp, e3, e4, by simp [oneA]⟩]
    simp
theorem mapM_ai (zs : List Int) : (zs.map ai).mapM intOf = some zs := by
  induction zs with
  | nil => rfl
  | cons z zs ih => simp only [List.map_cons, List.mapM_cons, intOf, ih]; rfl
theorem Sort_nil (h : Hp) : sortG [.rv .nils] h = some (.ret undefA, h) := rfl
theorem Sort_spec {h : Hp} {o ver : Nat} {xs : List Int} (ho : h[o]? = some ⟨ver, 1, xs.map ai⟩) (hl : xs.length < 1000000000) : sortG [.sl o ver 0 xs.length] h = some (.ret undefA, h.set o ⟨ver, 1, (sortL xs).map ai⟩) := by
  simp only [sortG, ho]
  rw [if_pos ⟨trivial, trivial, by simp, by omega⟩, mapM_ai]
theorem Equal_loop {a b : RV} {xs ys : List Int} (ha : IsInts a xs) (hb : IsInts b ys) (hl : xs.length = ys.length) (k M : Nat) (h : Hp) : ∀ (m i N : Nat), i + m = xs.length → m < N →
    slices_Equal_int_l116 k N M (.rv a) (.rv b) xs.length i h = some (.ret (ab (xs.drop i == ys.drop i)), h) := by
  intro m
  induction m with
  | zero =>
    intro i N hi hN
    obtain ⟨N, rfl⟩ : ∃ N', N = N' + 1 := ⟨N - 1, by omega⟩
    rw [slices_Equal_int_l116_eq, bsp_not (decide_eq_false (by omega)), slices_Equal_int_p15_eq, List.drop_eq_nil_of_le (by omega), List.drop_eq_nil_of_le (by omega)]
    rfl
  | succ m ih =>
    intro i N hi hN
    obtain ⟨N, rfl⟩ : ∃ N', N = N' + 1 := ⟨N - 1, by omega⟩
    have hlt : i < xs.length := by omega
    have hlt' : i < ys.length := by omega
    have hs := ha.short
    rw [slices_Equal_int_l116_eq, bsp_of (decide_eq_true (by omega)), ha.at hlt, hb.at hlt', wri_succ (by omega), ih (i + 1) N (by omega) (by omega), List.drop_eq_getElem_cons hlt, List.drop_eq_getElem_cons hlt']
    rw [show (xs[i] :: xs.drop (i + 1) == ys[i] :: ys.drop (i + 1)) = (xs[i] == ys[i] && xs.drop (i + 1) == ys.drop (i + 1)) from rfl]
    by_cases e : xs[i] = ys[i]
    · rw [bsp_not (by simpa using e), show (xs[i] == ys[i]) = true by simpa using e]
      rfl
    · rw [bsp_of (by simpa using e), show (xs[i] == ys[i]) = false by simpa using e]
      rfl
theorem Equal_spec {a b : RV} {xs ys : List Int} (ha : IsInts a xs) (hb : IsInts b ys) : F_slices_Equal_int [a, b] = some (.ret (.bool (xs == ys))) := by
  have hs := ha.short
  unfold F_slices_Equal_int
  rw [List.map_cons, List.map_cons, List.map_nil, slices_Equal_int_eq, ha.len, hb.len]
  by_cases hl : xs.length = ys.length
  · rw [bsp_not (by simp [hl]), ha.len, show ((0 : Int)) = ((0 : Nat) : Int) from rfl, Equal_loop ha hb hl big _ [] xs.length 0 big (by omega) (by rw [big_val]; omega)]
    simp [pureR, toRV, depthA]
  · rw [bsp_of (by simp; omega)]
    have : (xs == ys) = false := by simp; intro e; rw [e] at hl; exact hl rfl
    simp [pureR, toRV, depthA, this]
end Go.Proofs.Ytknphnmhjmejaaa
