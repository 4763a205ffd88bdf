/-  What the program's look at the flow of blocks tells. No conditions. -/
import Derived.Test.YtknphnmhjmejaaaHd
namespace Go.Proofs.Ytknphnmhjmejaaa
set_option linter.unusedVariables false
def own : AV → Option Nat
  | .sl o _ _ _ => some o
  | _ => none
theorem IntsAt.lna {R : Type} {h : Hp} {av : List Nat} {v : AV} {xs : List Int} (k : IntsAt h av v xs) (K : Int → Option R) : lna v K = K xs.length := by
  cases k <;> rfl
theorem IntsAt.cells {h : Hp} {av : List Nat} {v : AV} {xs : List Int} (k : IntsAt h av v xs) : vcells v = some [v] ∧ oneA v = true := by
  cases k <;> exact ⟨rfl, rfl⟩
theorem IntsAt.mono {h h' : Hp} {av : List Nat} {v : AV} {xs : List Int} (k : IntsAt h av v xs) (hk : ∀ o, own v = some o → h'[o]? = h[o]?) : IntsAt h' av v xs := by
  cases k with
  | nil => exact .nil
  | mk h1 hn => exact .mk (by rw [hk _ rfl]; exact h1) hn
theorem IntsAt.ownlt {h : Hp} {av : List Nat} {v : AV} {xs : List Int} (k : IntsAt h av v xs) {o : Nat} (ho : own v = some o) : o < h.length := by
  cases k with
  | nil => cases ho
  | mk h1 hn => cases ho; exact get_lt h1
theorem IntsAt.push2 {h : Hp} {v : AV} {xs : List Int} (k : IntsAt h [] v xs) (hl : xs.length < 1000000000) (x : Int) : ∃ w h3, (∀ {R : Type} (K : AV → Hp → Option R),
    (bsl 1 1 [.rv (.int .i64 0)] [(some (0, 1), .rv (.int .i64 x))] h fun u h2 => apn 1 8 h2 v u fun w h3 => K w h3) = K w h3) ∧ IntsAt h3 [] w (xs ++ [x]) ∧ h.length < h3.length ∧ (∀ o, o < h.length → own v ≠ some o → h3[o]? = h[o]?) ∧ (own w = own v ∨ ∃ o, own w = some o ∧ h.length < o) := by
  cases k with
  | nil =>
    refine ⟨_, _, fun K => by rw [bsl_one rfl, apn_nil rfl], ?_, by simp, fun o ho _ => ?_, .inr ⟨_, rfl, by omega⟩⟩
    · have := IntsAt.mk (h := h ++ [⟨0, 1, [ai x]⟩] ++ [⟨0, 1, [ai x]⟩]) (av := []) (o := h.length + 1) (v := 0) (xs := [x]) (by
        have := get_new (h := h ++ [(⟨0, 1, [ai x]⟩ : Ob)]) ⟨0, 1, [ai x]⟩
        rw [List.length_append] at this
        exact this) (by simp)
      exact this
    · rw [List.append_assoc, List.getElem?_append_left ho]
  | @mk o v xs ho hn =>
    have hlt := get_lt ho
    refine ⟨.sl o (v + 1) 0 (xs.length + 1), _, fun K => by rw [bsl_one rfl, apn_one ho (by simp) (by omega) rfl], ?_, by simp, fun o' ho' hne => ?_, .inl rfl⟩
    · have := IntsAt.mk (h := (h ++ [(⟨0, 1, [ai x]⟩ : Ob)]).set o ⟨v + 1, 1, xs.map ai ++ [ai x]⟩) (av := []) (o := o) (v := v + 1) (xs := xs ++ [x]) (by
        rw [List.map_append]; exact get_set_eq (get_old ho _)) hn
      rw [List.length_append] at this
      exact this
    · have h2 : o ≠ o' := fun e => hne (e ▸ rfl)
      rw [List.getElem?_set_ne h2, List.getElem?_append_left ho']
/-- Nothing that was there has turned. -/
structure Wr (h0 h : Hp) : Prop where
  lt : h0.length < h.length
  eq : ∀ o, o < h0.length → h[o]? = h0[o]?
theorem Wr.app {h0 h : Hp} (k : Wr h0 h) (l : Hp) : Wr h0 (h ++ l) := ⟨by rw [List.length_append]; have := k.lt; omega, fun o ho => by rw [List.getElem?_append_left (by have := k.lt; omega)]; exact k.eq o ho⟩
theorem Wr.ge {h0 h : Hp} (k : Wr h0 h) {o : Nat} {ob : Ob} (ho : h0[o]? = some ob) : h[o]? = some ob := by rw [k.eq o (get_lt ho)]; exact ho
/-- A list of lists of numbers that a function of ours makes, each apart. -/
structure FA (h0 h : Hp) (F : Nat → List Int) (n : Nat) (cells : List AV) : Prop where
  ob : h[h0.length]? = some ⟨0, 1, cells⟩
  len : cells.length = n
  ints : ∀ (i : Nat) (v : AV), cells[i]? = some v → IntsAt h [] v (F i)
  dist : ∀ (i j : Nat) (v w : AV), i ≠ j → cells[i]? = some v → cells[j]? = some w → ∀ o, own v = some o → own w ≠ some o
  high : ∀ (i : Nat) (v : AV), cells[i]? = some v → ∀ o, own v = some o → h0.length < o
theorem FA.app {h0 h : Hp} {F : Nat → List Int} {n : Nat} {cells : List AV} (k : FA h0 h F n cells) (l : Hp) : FA h0 (h ++ l) F n cells :=
  ⟨get_old k.ob l, k.len, fun i v hv => (k.ints i v hv).app l, k.dist, k.high⟩
theorem FA.set_high {h0 h : Hp} {F : Nat → List Int} {n : Nat} {cells : List AV} (k : FA h0 h F n cells) (l : Hp) {o : Nat} (ho : h.length ≤ o) (ob : Ob) : FA h0 ((h ++ l).set o ob) F n cells := by
  have hlt := get_lt k.ob
  refine ⟨get_set_ne (by omega) (get_old k.ob l), k.len, fun i v hv => ((k.ints i v hv).app l).mono fun o' ho' => ?_, k.dist, k.high⟩
  have := (k.ints i v hv).ownlt ho'
  rw [List.getElem?_set_ne (by omega)]
theorem Wr.set_high {h0 h : Hp} (k : Wr h0 h) (l : Hp) {o : Nat} (ho : h.length ≤ o) (ob : Ob) : Wr h0 ((h ++ l).set o ob) := by
  have := k.lt
  refine ⟨by simp; omega, fun o' ho' => ?_⟩
  rw [List.getElem?_set_ne (by omega), List.getElem?_append_left (by omega)]
  exact k.eq o' ho'
theorem FA.push {h0 h : Hp} {F : Nat → List Int} {n : Nat} {cells : List AV} (k : FA h0 h F n cells) (w0 : Wr h0 h) {s : Nat} (hs : s < n) (hl : (F s).length < 1000000000) (x : Int) : ∃ h4 cells',
    (∀ {R : Type} (K : Hp → Option R), (ixa 1 (.sl h0.length 0 0 n) s fun p => ldv h p fun v => bsl 1 1 [.rv (.int .i64 0)] [(some (0, 1), .rv (.int .i64 x))] h fun u h2 => apn 1 8 h2 v u fun w h3 => ixa 1 (.sl h0.length 0 0 n) s fun q => stv 1 h3 q w fun h4 => K h4) = K h4) ∧
      Wr h0 h4 ∧ FA h0 h4 (fun i => if s = i then F i ++ [x] else F i) n cells' := by
  obtain ⟨v, hv⟩ : ∃ v, cells[s]? = some v := ⟨_, List.getElem?_eq_getElem (by rw [k.len]; exact hs)⟩
  obtain ⟨w, h3, hK, kw, hlt, hkeep, how⟩ := (k.ints s v hv).push2 hl x
  have hob := k.ob
  have hol := get_lt hob
  have hne : own v ≠ some h0.length := fun e => by have := k.high s v hv _ e; omega
  have hob3 : h3[h0.length]? = some ⟨0, 1, cells⟩ := by rw [hkeep _ hol hne]; exact hob
  have hown : ∀ o, own w = some o → h0.length < o := by
    intro o ho
    rcases how with e | ⟨o', e, hlt'⟩
    · rw [e] at ho; exact k.high s v hv o ho
    · rw [ho] at e; cases e; omega
  have hsl : s < cells.length := by rw [k.len]; exact hs
  refine ⟨h3.set h0.length ⟨0, 1, cells.set s w⟩, cells.set s w, fun K => ?_, ⟨by simp; omega, fun o ho => ?_⟩, ⟨get_set_eq hob3, by simp [k.len], ?_, ?_, ?_⟩⟩
  · rw [sl_at hs, ldv_at hob hv, hK, sl_at hs, stv_at hob3 hsl kw.cells.2 kw.cells.1]
  · rw [List.getElem?_set_ne (by omega), hkeep o (by omega) (fun e => by have := k.high s v hv o e; omega)]
    exact w0.eq o ho
  · intro i u hu
    rw [List.getElem?_set] at hu
    by_cases e : s = i
    · subst e
      rw [if_pos rfl, if_pos hsl] at hu
      cases hu
      simp only [if_true]
      exact kw.mono fun o ho => List.getElem?_set_ne (by have := hown o ho; omega)
    · rw [if_neg e] at hu
      simp only [if_neg e]
      refine (k.ints i u hu).mono fun o ho => ?_
      have h1 := (k.ints i u hu).ownlt ho
      have h2 := k.high i u hu o ho
      rw [List.getElem?_set_ne (by omega), hkeep o h1 (fun e' => k.dist i s u v (Ne.symm e) hu hv o ho e')]
  · intro i j u u' hij hu hu' o ho ho'
    rw [List.getElem?_set] at hu hu'
    by_cases e : s = i
    · subst e
      rw [if_pos rfl, if_pos hsl] at hu
      cases hu
      rw [if_neg hij] at hu'
      rcases how with e | ⟨o2, e, hlt'⟩
      · rw [e] at ho
        exact k.dist s j v u' hij hv hu' o ho ho'
      · rw [ho] at e; cases e
        have := (k.ints j u' hu').ownlt ho'
        omega
    · rw [if_neg e] at hu
      by_cases e2 : s = j
      · subst e2
        rw [if_pos rfl, if_pos hsl] at hu'
        cases hu'
        rcases how with e | ⟨o2, e, hlt'⟩
        · rw [e] at ho'
          exact k.dist s i v u (fun h => hij h.symm) hv hu o ho' ho
        · rw [ho'] at e; cases e
          have := (k.ints i u hu).ownlt ho
          omega
      · rw [if_neg e2] at hu'
        exact k.dist i j u u' hij hu hu' o ho ho'
  · intro i u hu o ho
    rw [List.getElem?_set] at hu
    by_cases e : s = i
    · subst e
      rw [if_pos rfl, if_pos hsl] at hu
      cases hu
      exact hown o ho
    · rw [if_neg e] at hu
      exact k.high i u hu o ho
theorem froms_len {bs : List Blk} {n : Int} : ∀ {i : Nat}, (∀ (m : Nat) (b : Blk), m < i → bs[m]? = some b → b.succs.length ≤ 2) → (froms bs i n).length ≤ 2 * i
  | 0, _ => by simp [froms]
  | i + 1, h => by
    have ih := froms_len (n := n) (i := i) fun m b hm hb => h m b (by omega) hb
    simp only [froms, List.length_append]
    split
    · rename_i b hb
      have h1 := h i b (by omega) hb
      have h2 := List.count_le_length (a := n) (l := b.succs)
      simp; omega
    · simp; omega
theorem froms'_len {bs : List Blk} {n : Int} {i j : Nat} (h : ∀ (m : Nat) (b : Blk), m < i + 1 → bs[m]? = some b → b.succs.length ≤ 2) : (froms' bs i j n).length ≤ 2 * i + 2 := by
  have ih := froms_len (n := n) (i := i) fun m b hm hb => h m b (by omega) hb
  simp only [froms', List.length_append]
  split
  · rename_i b hb
    have h1 := h i b (by omega) hb
    have h2 := List.count_le_length (a := n) (l := b.succs.take j)
    have h3 : (b.succs.take j).length ≤ b.succs.length := by rw [List.length_take]; omega
    simp only [List.length_replicate]
    omega
  · simp; omega
theorem mks_one' {R : Type} {h : Hp} {z : AV} {n : Nat} (hn : n < 4000000000000) (K : AV → Hp → Option R) : mks 1 24 [z] h n K = K (.sl h.length 0 0 n) (h ++ [⟨0, 1, zrep [z] n⟩]) := by
  have h1 : (n : Int) ≤ room := by simp [room]; omega
  have h2 : (24 : Int) * (n : Int) ≤ room := by simp [room]; omega
  simp [mks, h1, h2]
/-- The end of it all. -/
def FEnd (h0 : Hp) (ok : Nat) (cells : List AV) (P : List Nat) (Q : Prop) (o : Option (ARes × Hp)) : Prop :=
  (Q → ∃ h' x, o = some (.ret undefA, h') ∧ IsInts x (P.map Int.ofNat) ∧ h'[ok]? = some ⟨0, 1, cells.set 10 (.rv x)⟩ ∧ ∀ o, o < h0.length → o ≠ ok → h'[o]? = h0[o]?) ∧
  (¬ Q → ∃ h', o = some (.pan (.rv (errA 131)), h') ∧ ∀ o, o < h0.length → o ≠ ok → h'[o]? = h0[o]?)
theorem FEnd.bad {h0 h : Hp} {ok : Nat} {cells : List AV} {P : List Nat} {Q : Prop} (hq : ¬ Q) (w : Wr h0 h) : FEnd h0 ok cells P Q (some (.pan (.rv (errA 131)), h)) :=
  ⟨fun q => absurd q hq, fun _ => ⟨h, rfl, fun o ho _ => w.eq o ho⟩⟩
section
variable {h0 : Hp} {ok : Nat} {ucells : List AV} {p r v b : RV} {d : Cd} {P : List Nat} {tail : List AV}
/-- The checker's cells. -/
abbrev ckCells (u1 u2 : AV) (p r v b : RV) (tail : List AV) : List AV := u1 :: u2 :: .rv p :: .rv r :: .rv v :: .rv b :: tail
theorem flow_count {u1 u2 : AV} (hd : IsCd [p, r, v, b] d) (htl : tail.length = 5) (hsh : d.blocks.length ≤ 4096) (ho0 : h0[ok]? = some ⟨0, 1, ckCells u1 u2 p r v b tail⟩) {x : RV} (hx : IsInts x (P.map Int.ofNat)) (hPl : P.length ≤ d.blocks.length)
    (Q : Prop) (hQ : Q ↔ P.length + d.blocks.countP (fun b => b.kind == 0) = d.blocks.length) (k M : Nat) : ∀ (m i N : Nat) (h : Hp), i + m = d.blocks.length → m < N →
      h[ok]? = some ⟨0, 1, (ckCells u1 u2 p r v b tail).set 10 (.rv x)⟩ → (∀ o, o < h0.length → o ≠ ok → h[o]? = h0[o]?) →
      FEnd h0 ok (ckCells u1 u2 p r v b tail) P Q (ssa_checker_flow_l4084 k N M (.ptr ok 0 0) ((d.blocks.take i).countP (fun b => b.kind == 0) : Nat) (.rv b) d.blocks.length i h) := by
  obtain ⟨p, r, v, b, e, _, _, _, hb⟩ := hd
  cases e
  have c5 : ((ckCells u1 u2 p r v b tail).set 10 (.rv x))[5]? = some (.rv b) := by simp [ckCells]
  have c10 : ((ckCells u1 u2 p r v b tail).set 10 (.rv x))[10]? = some (.rv x) := by
    rw [List.getElem?_set_self (by simp [ckCells, htl])]
  intro m
  induction m with
  | zero =>
    intro i N h hi hN ho hfr
    obtain ⟨N, rfl⟩ : ∃ N', N = N' + 1 := ⟨N - 1, by omega⟩
    have hle : (d.blocks.take i).countP (fun b => b.kind == 0) ≤ 4096 := Nat.le_trans List.countP_le_length (by simp; omega)
    rw [List.take_of_length_le (by omega)] at hle ⊢
    rw [ssa_checker_flow_l4084_eq, bsp_not (decide_eq_false (by omega)), ssa_checker_flow_p511_eq, nck_ptr, pad_ptr, ldv_at ho c10, hx.len, nck_ptr, pad_ptr, pad_ptr, ldv_at ho c5, hb.len, must_call, List.length_map,
      wri_small (n := (P.length : Int) + (d.blocks.countP (fun b => b.kind == 0) : Nat)) (by omega) (by omega)]
    by_cases e : P.length + d.blocks.countP (fun b => b.kind == 0) = d.blocks.length
    · rw [if_pos (by simp; omega)]
      exact ⟨fun _ => ⟨h, x, rfl, hx, ho, hfr⟩, fun hq => absurd (hQ.2 e) hq⟩
    · rw [if_neg (by simp; omega)]
      exact ⟨fun q => absurd (hQ.1 q) e, fun _ => ⟨h, rfl, hfr⟩⟩
  | succ m ih =>
    intro i N h hi hN ho hfr
    obtain ⟨N, rfl⟩ : ∃ N', N = N' + 1 := ⟨N - 1, by omega⟩
    have hlt : i < d.blocks.length := by omega
    obtain ⟨a, q, s, t, k1, k2, k3, k4, hcp⟩ := blk_copy hb hlt
    have hle : (d.blocks.take i).countP (fun b => b.kind == 0) ≤ 4096 := Nat.le_trans List.countP_le_length (by simp; omega)
    have hq := get_new (h := h) ⟨0, 1, blkCells d.blocks[i] a q s t⟩
    have hc : (d.blocks.take (i + 1)).countP (fun b => b.kind == 0) = (d.blocks.take i).countP (fun b => b.kind == 0) + if d.blocks[i].kind = 0 then 1 else 0 := by
      rw [List.take_add_one, List.getElem?_eq_getElem hlt, List.countP_append]
      simp [List.countP_cons]
    have next := ih (i + 1) N (h ++ [⟨0, 1, blkCells d.blocks[i] a q s t⟩]) (by omega) (by omega) (get_old ho _) (fun o ho' hne => by
      rw [← hfr o ho' hne]
      exact List.getElem?_append_left (by
        apply Classical.byContradiction
        intro hge
        have h1 := hfr o ho' hne
        rw [List.getElem?_eq_none (by omega), List.getElem?_eq_getElem ho'] at h1
        cases h1))
    rw [hc] at next
    rw [ssa_checker_flow_l4084_eq, bsp_of (decide_eq_true (by omega)), hcp, pad_ptr, ldi_at hq rfl]
    by_cases e : d.blocks[i].kind = 0
    · rw [if_pos e] at next
      rw [bsp_of (by simpa using e), ssa_checker_flow_p32679_eq, wri_succ (by omega), wri_succ (by omega)]
      exact next
    · rw [if_neg e] at next
      rw [bsp_not (by simpa using e), ssa_checker_flow_p32679_eq, wri_succ (by omega)]
      exact next
theorem flow_preds {u1 u2 : AV} (hd : IsCd [p, r, v, b] d) (htl : tail.length = 5) (hsh : d.blocks.length ≤ 4096) (hsu : ∀ (m : Nat) (b : Blk), m < d.blocks.length → d.blocks[m]? = some b → b.succs.length ≤ 2) (hok : okSuccs d.blocks) (hl0 : 0 < d.blocks.length) (hP : IsPost d.blocks P) (ho0 : h0[ok]? = some ⟨0, 1, ckCells u1 u2 p r v b tail⟩)
    (Q : Prop) (hQ1 : Q → ∀ (n : Nat) (b : Blk), d.blocks[n]? = some b → sortL b.preds = froms d.blocks d.blocks.length n) (k M : Nat) (hk : 1000000000 < k)
    (hQ2 : (∀ (n : Nat) (b : Blk), d.blocks[n]? = some b → sortL b.preds = froms d.blocks d.blocks.length n) → (Q ↔ P.length + d.blocks.countP (fun b => b.kind == 0) = d.blocks.length)) {cells : List AV} :
    ∀ (m i N : Nat) (h : Hp), i + m = d.blocks.length → m < N → Wr h0 h → FA h0 h (fun i => froms d.blocks d.blocks.length i) d.blocks.length cells → (∀ (n : Nat) (b : Blk), n < i → d.blocks[n]? = some b → sortL b.preds = froms d.blocks d.blocks.length n) →
      FEnd h0 ok (ckCells u1 u2 p r v b tail) P Q (ssa_checker_flow_l500 k N M (.ptr ok 0 0) (.sl h0.length 0 0 d.blocks.length) (.rv b) d.blocks.length i h) := by
  have hd' := hd
  obtain ⟨p, r, v, b, e, k1, k2, k3, hb⟩ := hd
  cases e
  intro m
  induction m with
  | zero =>
    intro i N h hi hN w f hp
    obtain ⟨N, rfl⟩ : ∃ N', N = N' + 1 := ⟨N - 1, by omega⟩
    have ho := w.ge ho0
    obtain ⟨x, hx, hix⟩ := reached_spec hd' ⟨hl0, hsh⟩ hok hP
    have hl4 : ldg 4 h (.ptr ok 0 2) = fun K : AV → Option (ARes × Hp) => K (.agg [.rv p, .rv r, .rv v, .rv b]) := by
      funext K
      simp [ldg, cellsN, cellAt, ho, ckCells]
    have hone : oneA (.rv x) = true := hix.one
    rw [ssa_checker_flow_l500_eq, bsp_not (decide_eq_false (by omega)), ssa_checker_flow_p63_eq, nck_ptr, pad_ptr, hl4]
    simp only
    rw [callP_ret (by simp [toRV, depthA]) hx (.inl rfl), nck_ptr, pad_ptr, stv_at ho (by simp [ckCells, htl]) hix.one hix.cells, nck_ptr, pad_ptr, pad_ptr, ldv_at (get_set_eq ho) (x := .rv b) (by simp [ckCells]), hb.len]
    have hall : ∀ (n : Nat) (b : Blk), d.blocks[n]? = some b → sortL b.preds = froms d.blocks d.blocks.length n := fun n b hb => hp n b (by have := (List.getElem?_eq_some_iff.1 hb).1; omega) hb
    have := flow_count hd' htl hsh ho0 hix (hP.facts hok hl0).2.2 Q (hQ2 hall) k (h.set ok ⟨0, 1, (ckCells u1 u2 p r v b tail).set 10 (.rv x)⟩).length d.blocks.length 0 k (h.set ok ⟨0, 1, (ckCells u1 u2 p r v b tail).set 10 (.rv x)⟩) (by omega) (by omega) (get_set_eq ho)
      (fun o ho' hne => by rw [List.getElem?_set_ne (fun e => hne e.symm)]; exact w.eq o ho')
    simpa [ckCells] using this
  | succ m ih =>
    intro i N h hi hN w f hp
    obtain ⟨N, rfl⟩ : ∃ N', N = N' + 1 := ⟨N - 1, by omega⟩
    have hlt : i < d.blocks.length := by omega
    obtain ⟨a, q, s, t, k1, k2, k3, k4, hcp⟩ := blk_copy hb hlt
    have hq := get_new (h := h) ⟨0, 1, blkCells d.blocks[i] a q s t⟩
    rw [ssa_checker_flow_l500_eq, bsp_of (decide_eq_true (by omega)), hcp, pad_ptr, ldv_at hq rfl]
    have w1 := w.app [⟨0, 1, blkCells d.blocks[i] a q s t⟩]
    have f1 := f.app [⟨0, 1, blkCells d.blocks[i] a q s t⟩]
    generalize h ++ [(⟨0, 1, blkCells d.blocks[i] a q s t⟩ : Ob)] = h1 at w1 f1 ⊢
    have hs2 := k2.short
    obtain ⟨vc, hvc⟩ : ∃ vc, cells[i]? = some vc := ⟨_, List.getElem?_eq_getElem (by rw [f.len]; exact hlt)⟩
    have hfl : (froms d.blocks d.blocks.length i).length < 1000000000 := by
      have := froms_len (n := (i : Int)) hsu
      omega
    have tail : ∀ (r62 : AV) (x1 : RV) (h2 : Hp), Wr h0 h2 → FA h0 h2 (fun i => froms d.blocks d.blocks.length i) d.blocks.length cells → toRV h2 depthA r62 = some x1 → IsInts x1 (sortL d.blocks[i].preds) →
        FEnd h0 ok (ckCells u1 u2 p r v b tail) P Q (ixa 1 (.sl h0.length 0 0 d.blocks.length) i fun p70 => ldv h2 p70 fun v71 => callP F_slices_Equal_int h2 [r62, v71] (fun r72 => asBool r72 fun b74 => callP F_ssa_must h2 [(.rv (.bool b74)), (.rv (.int .i64 131))] (fun r75 => ssa_checker_flow_l500 k N M (.ptr ok 0 0) (.sl h0.length 0 0 d.blocks.length) (.rv b) d.blocks.length (wri .i64 ((i : Int) + 1)) h2) (fun q76 => some (.pan q76, h2))) (fun q73 => some (.pan q73, h2))) := by
      intro r62 x1 h2 w2 f2 hr1 hx1
      obtain ⟨x2, hr2, hx2⟩ := (f2.ints i vc hvc).done hfl
      rw [sl_at hlt, ldv_at f2.ob hvc, callP_ret (by simp [hr1, hr2]) (Equal_spec hx1 hx2) (.inr rfl), asBool_b, must_call, wri_succ (by omega)]
      by_cases e : sortL d.blocks[i].preds = froms d.blocks d.blocks.length i
      · rw [if_pos (by simpa using e)]
        refine ih (i + 1) N h2 (by omega) (by omega) w2 f2 fun n c hn hc => ?_
        rcases Nat.lt_or_ge n i with hlt' | hge
        · exact hp n c hlt' hc
        · obtain rfl : n = i := by omega
          rw [List.getElem?_eq_getElem hlt] at hc
          cases hc
          exact e
      · rw [if_neg (by simpa using e)]
        exact .bad (fun q => e (hQ1 q i _ (List.getElem?_eq_getElem hlt))) w2
    rcases Clone_spec k2 h1 with ⟨rfl, hcl⟩ | ⟨l, o, ver, hcl, ho, hge⟩
    · rw [callG_ret hcl, callG_ret (Sort_nil h1)]
      refine tail (.rv .nils) .nils h1 w1 f1 rfl ?_
      have : d.blocks[i].preds = [] := by
        cases hp' : d.blocks[i].preds with
        | nil => rfl
        | cons z zs => rw [hp'] at k2; cases k2
      rw [this]
      simpa [sortL] using IsInts.nil
    · rw [callG_ret hcl, callG_ret (Sort_spec ho hs2)]
      have hlen := sortL_length d.blocks[i].preds
      refine tail _ (.ros (ints (sortL d.blocks[i].preds)) (sortL d.blocks[i].preds).length) _ (w1.set_high l hge _) (f1.set_high l hge _) ?_ (.mk _ (by omega))
      have := toRV_ints (xs := sortL d.blocks[i].preds) (get_set_eq (ob := ⟨ver, 1, (sortL d.blocks[i].preds).map ai⟩) ho)
      rw [hlen] at this ⊢
      exact this
theorem flow_inner {u1 u2 : AV} (hd : IsCd [p, r, v, b] d) (hsh : d.blocks.length ≤ 4096) (hok : okSuccs d.blocks) (Q : Prop) (k N M M' i : Nat) {bi : Blk} (hbi : d.blocks[i]? = some bi) {sv : RV} (hsv : IsInts sv bi.succs)
    (hsu : ∀ (m : Nat) (b : Blk), m < i + 1 → d.blocks[m]? = some b → b.succs.length ≤ 2)
    (outer : ∀ cells h, Wr h0 h → FA h0 h (fun n => froms d.blocks (i + 1) n) d.blocks.length cells → FEnd h0 ok (ckCells u1 u2 p r v b tail) P Q (ssa_checker_flow_l116 k N M (.ptr ok 0 0) (.sl h0.length 0 0 d.blocks.length) (.rv b) d.blocks.length ((i + 1 : Nat) : Int) h)) :
    ∀ (m j N' : Nat) (cells : List AV) (h : Hp), j + m = bi.succs.length → m < N' → Wr h0 h → FA h0 h (fun n => froms' d.blocks i j n) d.blocks.length cells →
      FEnd h0 ok (ckCells u1 u2 p r v b tail) P Q (ssa_checker_flow_l239228 k N M N' M' (.ptr ok 0 0) (.sl h0.length 0 0 d.blocks.length) i (.rv b) d.blocks.length i (.rv sv) bi.succs.length j h) := by
  have hil := (List.getElem?_eq_some_iff.1 hbi).1
  have hs := hsv.short
  intro m
  induction m with
  | zero =>
    intro j N' cells h hj hN w f
    obtain ⟨N', rfl⟩ : ∃ q, N' = q + 1 := ⟨N' - 1, by omega⟩
    rw [ssa_checker_flow_l239228_eq, bsp_not (decide_eq_false (by omega)), ssa_checker_flow_p935_eq, wri_succ (by omega)]
    have : (fun n : Nat => froms' d.blocks i j n) = fun n : Nat => froms d.blocks (i + 1) n := by
      funext n
      exact froms'_end hbi (by omega)
    rw [this] at f
    exact outer cells h w f
  | succ m ih =>
    intro j N' cells h hj hN w f
    obtain ⟨N', rfl⟩ : ∃ q, N' = q + 1 := ⟨N' - 1, by omega⟩
    have hjl : j < bi.succs.length := by omega
    obtain ⟨n, hn, hnl⟩ := hok i bi hbi bi.succs[j] (List.getElem_mem hjl)
    have hlen := froms'_len (n := (n : Int)) (j := j) hsu
    obtain ⟨h4, cells', hK, w', f'⟩ := f.push w hnl (by omega) (i : Int)
    rw [ssa_checker_flow_l239228_eq, bsp_of (decide_eq_true (by omega)), hsv.at hjl, hn, hK, wri_succ (by omega)]
    refine ih (j + 1) N' cells' h4 (by omega) (by omega) w' ?_
    have : (fun q : Nat => froms' d.blocks i (j + 1) q) = fun q : Nat => if n = q then froms' d.blocks i j q ++ [(i : Int)] else froms' d.blocks i j q := by
      funext q
      rw [froms'_succ hbi (show bi.succs[j]? = some (n : Int) by rw [List.getElem?_eq_getElem hjl, hn])]
      by_cases e : n = q
      · subst e; simp
      · rw [if_neg e, if_neg (by omega)]
    rw [this]
    exact f'
theorem flow_outer {u1 u2 : AV} (hd : IsCd [p, r, v, b] d) (htl : tail.length = 5) (hf : formOk d.blocks = true) (hP : IsPost d.blocks P) (hhead : ∀ b, d.blocks[0]? = some b → b.kind ≠ 0) (ho0 : h0[ok]? = some ⟨0, 1, ckCells u1 u2 p r v b tail⟩) (k M : Nat) (hk : 1000000000 < k) :
    ∀ (m i N : Nat) (cells : List AV) (h : Hp), i + m = d.blocks.length → m < N → Wr h0 h → FA h0 h (fun n => froms d.blocks i n) d.blocks.length cells → (∀ (m : Nat) (b : Blk), m < i → d.blocks[m]? = some b → (b.succs.length : Int) = wants b.kind) →
      FEnd h0 ok (ckCells u1 u2 p r v b tail) P (FlowP d.blocks P) (ssa_checker_flow_l116 k N M (.ptr ok 0 0) (.sl h0.length 0 0 d.blocks.length) (.rv b) d.blocks.length i h) := by
  have hd' := hd
  have hok := formOk_succs hf
  have hl : 0 < d.blocks.length ∧ d.blocks.length ≤ 4096 := by
    simp only [formOk, Bool.and_eq_true, decide_eq_true_eq] at hf
    exact hf.1
  have two : ∀ b : Blk, (b.succs.length : Int) = wants b.kind → b.succs.length ≤ 2 := by
    intro b hb
    unfold wants at hb
    split at hb
    · omega
    · split at hb <;> omega
  obtain ⟨p, r, v, b, e, _, _, _, hb⟩ := hd
  cases e
  intro m
  induction m with
  | zero =>
    intro i N cells h hi hN w f hsu
    obtain ⟨N, rfl⟩ : ∃ N', N = N' + 1 := ⟨N - 1, by omega⟩
    obtain rfl : i = d.blocks.length := by omega
    obtain ⟨vc, hvc⟩ : ∃ vc, cells[0]? = some vc := ⟨_, List.getElem?_eq_getElem (by rw [f.len]; exact hl.1)⟩
    have e0 : ∀ K : AV → Option (ARes × Hp), ixa 1 (.sl h0.length 0 0 d.blocks.length) 0 K = K (.ptr h0.length 0 0) := fun K => sl_at (i := 0) hl.1 K
    rw [ssa_checker_flow_l116_eq, bsp_not (decide_eq_false (by omega)), ssa_checker_flow_p15_eq, e0, ldv_at f.ob hvc, (f.ints 0 vc hvc).lna, must_call]
    have hz : ((froms d.blocks d.blocks.length (0 : Nat)).length : Int) == 0 ↔ froms d.blocks d.blocks.length 0 = [] := by
      rw [show ((0 : Nat) : Int) = 0 from rfl, beq_iff_eq]
      rw [← List.length_eq_zero_iff]
      omega
    by_cases e : froms d.blocks d.blocks.length 0 = []
    · have ho := w.ge ho0
      rw [if_pos (hz.2 e), nck_ptr, pad_ptr, pad_ptr, ldv_at ho (x := .rv b) rfl, hb.len, show ((0 : Int)) = ((0 : Nat) : Int) from rfl]
      have hs' : ∀ b ∈ d.blocks, (b.succs.length : Int) = wants b.kind := by
        intro b hb
        obtain ⟨i, hi⟩ := List.getElem?_of_mem hb
        exact hsu i b (List.getElem?_eq_some_iff.1 hi).1 hi
      exact flow_preds hd' htl hl.2 (fun m b hm hb => two b (hsu m b hm hb)) hok hl.1 hP ho0 _ (fun q => q.preds) k h.length hk (fun hp => ⟨fun q => q.all, fun ha => ⟨hhead, hs', e, hp, ha⟩⟩) d.blocks.length 0 k h (by omega) (by omega) w f (fun n b hn => by omega)
    · rw [if_neg (fun h => e (hz.1 h))]
      exact .bad (fun q => e q.none) w
  | succ m ih =>
    intro i N cells h hi hN w f hsu
    obtain ⟨N, rfl⟩ : ∃ N', N = N' + 1 := ⟨N - 1, by omega⟩
    have hlt : i < d.blocks.length := by omega
    have hbi : d.blocks[i]? = some d.blocks[i] := List.getElem?_eq_getElem hlt
    obtain ⟨a, q, s, t, k1, k2, k3, k4, hcp⟩ := blk_copy hb hlt
    have hq := get_new (h := h) ⟨0, 1, blkCells d.blocks[i] a q s t⟩
    have w1 := w.app [⟨0, 1, blkCells d.blocks[i] a q s t⟩]
    have f1 := f.app [⟨0, 1, blkCells d.blocks[i] a q s t⟩]
    rw [ssa_checker_flow_l116_eq, bsp_of (decide_eq_true (by omega)), hcp, pad_ptr, ldi_at hq rfl]
    generalize h.length = oq at hq ⊢
    generalize h ++ [(⟨0, 1, blkCells d.blocks[i] a q s t⟩ : Ob)] = h1 at w1 f1 hq ⊢
    have hs3 := k3.short
    have main : ∀ n : Int, n = wants d.blocks[i].kind → FEnd h0 ok (ckCells u1 u2 p r v b tail) P (FlowP d.blocks P) (ssa_checker_flow_p14951 k N M (.ptr ok 0 0) (.sl h0.length 0 0 d.blocks.length) i (.ptr oq 0 0) n (.rv b) d.blocks.length i h1) := by
      intro n hn
      rw [ssa_checker_flow_p14951_eq, pad_ptr, ldv_at hq rfl, k3.len, must_call]
      by_cases e : (d.blocks[i].succs.length : Int) = n
      · have hsu' : ∀ (m : Nat) (b : Blk), m < i + 1 → d.blocks[m]? = some b → (b.succs.length : Int) = wants b.kind := by
          intro m c hm hc
          rcases Nat.lt_or_ge m i with hlt' | hge
          · exact hsu m c hlt' hc
          · obtain rfl : m = i := by omega
            rw [hbi] at hc
            cases hc
            rw [e, hn]
        rw [if_pos (by simpa using e), pad_ptr, ldv_at hq rfl, k3.len, show ((0 : Int)) = ((0 : Nat) : Int) from rfl]
        refine flow_inner hd' hl.2 hok _ k N M _ i hbi k3 (fun m b hm hb => two b (hsu' m b hm hb)) (fun cells h w f => ih (i + 1) N cells h (by omega) (by omega) w f hsu') d.blocks[i].succs.length 0 k cells h1 (by omega) (by omega) w1 ?_
        have : (fun n : Nat => froms' d.blocks i 0 n) = fun n : Nat => froms d.blocks i n := by
          funext n
          exact froms'_zero
        rw [this]
        exact f1
      · rw [if_neg (by simpa using e)]
        exact .bad (fun q => e (by rw [hn]; exact q.succs _ (List.getElem_mem hlt))) w1
    by_cases g1 : d.blocks[i].kind = 1
    · rw [bsp_of (by simpa using g1)]
      exact main 1 (by unfold wants; rw [if_pos g1])
    · rw [bsp_not (by simpa using g1)]
      by_cases g2 : d.blocks[i].kind = 2
      · rw [bsp_of (by simpa using g2)]
        exact main 2 (by unfold wants; rw [if_neg g1, if_pos g2])
      · rw [bsp_not (by simpa using g2)]
        exact main 0 (by unfold wants; rw [if_neg g1, if_neg g2])
theorem flow_spec {u1 u2 : AV} (hd : IsCd [p, r, v, b] d) (htl : tail.length = 5) (hf : formOk d.blocks = true) (hP : IsPost d.blocks P) (ho0 : h0[ok]? = some ⟨0, 1, ckCells u1 u2 p r v b tail⟩) :
    FEnd h0 ok (ckCells u1 u2 p r v b tail) P (FlowP d.blocks P) (G_ssa_checker_flow [.ptr ok 0 0] h0) := by
  have hd' := hd
  have hl : 0 < d.blocks.length ∧ d.blocks.length ≤ 4096 := by
    simp only [formOk, Bool.and_eq_true, decide_eq_true_eq] at hf
    exact hf.1
  obtain ⟨p, r, v, b, e, _, _, _, hb⟩ := hd
  cases e
  unfold G_ssa_checker_flow
  rw [ssa_checker_flow_eq, callG_ret (isBlock_spec ho0 (b := b) rfl hb 0), asBool_b, must_call]
  have h00 : d.blocks[0]? = some d.blocks[0] := List.getElem?_eq_getElem hl.1
  have e0 : isBlkN d.blocks 0 = (d.blocks[0].kind != 0) := by simp [isBlkN, h00]
  by_cases h0' : d.blocks[0].kind = 0
  · rw [if_neg (by simp [e0, h0'])]
    exact ⟨fun q => absurd h0' (q.head _ h00), fun _ => ⟨h0, rfl, fun _ _ _ => rfl⟩⟩
  · rw [if_pos (by simp [e0, h0']), nck_ptr, pad_ptr, pad_ptr, ldv_at ho0 (x := .rv b) rfl, hb.len, mks_one' (by omega), nck_ptr, pad_ptr, pad_ptr, ldv_at (get_old ho0 _) (x := .rv b) rfl, hb.len, show ((0 : Int)) = ((0 : Nat) : Int) from rfl]
    have hz : zrep [.rv .nils] d.blocks.length = List.replicate d.blocks.length (.rv .nils) := by simp [zrep]
    have hcell : ∀ (i : Nat) (v : AV), (zrep [.rv .nils] d.blocks.length)[i]? = some v → v = .rv .nils := by
      intro i v hv
      rw [hz, List.getElem?_replicate] at hv
      split at hv
      · cases hv; rfl
      · cases hv
    refine flow_outer hd' htl hf hP (fun b hb => by rw [h00] at hb; cases hb; exact h0') ho0 big _ (by rw [big_val]; omega) d.blocks.length 0 big (zrep [.rv .nils] d.blocks.length) _ (by omega) (by rw [big_val]; omega)
      ⟨by simp, fun o ho => List.getElem?_append_left ho⟩ ⟨get_new _, by simp [zrep], ?_, ?_, ?_⟩ (fun m b hm => by omega)
    · intro i v hv
      rw [hcell i v hv]
      exact .nil
    · intro i j v w _ hv _ o ho
      rw [hcell i v hv] at ho
      cases ho
    · intro i v hv o ho
      rw [hcell i v hv] at ho
      cases ho
end
end Go.Proofs.Ytknphnmhjmejaaa
