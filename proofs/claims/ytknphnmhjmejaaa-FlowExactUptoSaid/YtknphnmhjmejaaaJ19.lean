/- Joined texts: Kf, Kg. No conditions but those of each. -/
import Derived.Test.YtknphnmhjmejaaaJ18
/-  The document's loops: which there are. No conditions. -/
namespace Go.Proofs.Ytknphnmhjmejaaa
set_option linter.unusedVariables false
/-- The document's list of loops, as it lies on the heap. -/
structure RC (h : Hp) (ol vl : Nat) (l : List LR) (outs ds : Nat → Int) (cells : List AV) : Prop where
  ob : h[ol]? = some ⟨vl, 4, cells⟩
  len : cells.length = l.length * 4
  c0 : ∀ (i : Nat) (x : LR), l[i]? = some x → cells[i * 4]? = some (ai (x.head : Nat))
  c1 : ∀ (i : Nat) (x : LR), l[i]? = some x → cells[i * 4 + 1]? = some (ai (outs i))
  c2 : ∀ (i : Nat) (x : LR), l[i]? = some x → cells[i * 4 + 2]? = some (ai (ds i))
  c3 : ∀ (i : Nat) (x : LR), l[i]? = some x → ∃ bv, cells[i * 4 + 3]? = some (.rv bv) ∧ IsInts bv x.body
theorem RC.set1 {h : Hp} {ol vl : Nat} {l : List LR} {outs ds : Nat → Int} {cells : List AV} (k : RC h ol vl l outs ds cells) (i : Nat) (v : Int) : RC (h.set ol ⟨vl, 4, cells.set (i * 4 + 1) (ai v)⟩) ol vl l (fun t => if t = i then v else outs t) ds (cells.set (i * 4 + 1) (ai v)) := by
  refine ⟨get_set_eq k.ob, by rw [List.length_set]; exact k.len, fun t x hx => ?_, fun t x hx => ?_, fun t x hx => ?_, fun t x hx => ?_⟩
  · rw [List.getElem?_set_ne (by omega)]; exact k.c0 t x hx
  · by_cases e : t = i
    · subst e
      have := (List.getElem?_eq_some_iff.1 hx).1
      simp only [if_true]
      rw [List.getElem?_set_self (by rw [k.len]; omega)]
    · simp only [if_neg e]
      rw [List.getElem?_set_ne (by omega)]; exact k.c1 t x hx
  · rw [List.getElem?_set_ne (by omega)]; exact k.c2 t x hx
  · rw [List.getElem?_set_ne (by omega)]; exact k.c3 t x hx
theorem RC.set2 {h : Hp} {ol vl : Nat} {l : List LR} {outs ds : Nat → Int} {cells : List AV} (k : RC h ol vl l outs ds cells) (i : Nat) (v : Int) : RC (h.set ol ⟨vl, 4, cells.set (i * 4 + 2) (ai v)⟩) ol vl l outs (fun t => if t = i then v else ds t) (cells.set (i * 4 + 2) (ai v)) := by
  refine ⟨get_set_eq k.ob, by rw [List.length_set]; exact k.len, fun t x hx => ?_, fun t x hx => ?_, fun t x hx => ?_, fun t x hx => ?_⟩
  · rw [List.getElem?_set_ne (by omega)]; exact k.c0 t x hx
  · rw [List.getElem?_set_ne (by omega)]; exact k.c1 t x hx
  · by_cases e : t = i
    · subst e
      have := (List.getElem?_eq_some_iff.1 hx).1
      simp only [if_true]
      rw [List.getElem?_set_self (by rw [k.len]; omega)]
    · simp only [if_neg e]
      rw [List.getElem?_set_ne (by omega)]; exact k.c2 t x hx
  · rw [List.getElem?_set_ne (by omega)]; exact k.c3 t x hx
inductive RsAt (h : Hp) : AV → List LR → Prop
  | nil : RsAt h (.rv .nils) []
  | mk {ol vl : Nat} {l : List LR} {cells : List AV} (k : RC h ol vl l (fun _ => -1) (fun _ => 0) cells) : RsAt h (.sl ol vl 0 l.length) l
theorem RsAt.push {h : Hp} {v : AV} {l : List LR} (k : RsAt h v l) (hl : l.length < 1000000000) (x : LR) {bv : RV} (hb : IsInts bv x.body) : ∃ w h3, (∀ {R : Type} (K : AV → Hp → Option R), apn 4 48 (h ++ [⟨0, 4, [ai (x.head : Nat), ai (-1), ai 0, .rv bv]⟩]) v (.sl h.length 0 0 1) K = K w h3) ∧
    RsAt h3 w (l ++ [x]) ∧ h.length < h3.length ∧ (∀ o, o < h.length → own v ≠ some o → h3[o]? = h[o]?) ∧ (own w = own v ∨ ∃ o, own w = some o ∧ h.length < o) := by
  have h1 := hb.one
  have hall : [ai (x.head : Nat), ai (-1), ai 0, .rv bv].all oneA = true := by
    simp only [List.all_cons, List.all_nil, h1]
    rfl
  have hw : wcells 4 (h ++ [(⟨0, 4, [ai (x.head : Nat), ai (-1), ai 0, .rv bv]⟩ : Ob)]) (.sl h.length 0 0 1) = some (1, [ai (x.head : Nat), ai (-1), ai 0, .rv bv]) := by
    simp only [wcells, get_new]
    rw [if_pos (by simp)]
    rfl
  cases k with
  | nil =>
    refine ⟨.sl (h.length + 1) 0 0 1, h ++ [⟨0, 4, [ai (x.head : Nat), ai (-1), ai 0, .rv bv]⟩] ++ [⟨0, 4, [ai (x.head : Nat), ai (-1), ai 0, .rv bv]⟩], fun K => ?_, ?_, by simp, fun o ho _ => ?_, .inr ⟨_, rfl, by omega⟩⟩
    · simp only [apn, hw]
      rw [if_neg (by omega), if_pos ⟨by simp [room], by simp [room], hall⟩]
      simp
    · have one : ∀ (i : Nat) (y : LR), [x][i]? = some y → i = 0 ∧ y = x := by
        intro i y hi
        cases i with
        | zero => exact ⟨rfl, by simpa using hi.symm⟩
        | succ i => simp at hi
      have := RsAt.mk (h := h ++ [⟨0, 4, [ai (x.head : Nat), ai (-1), ai 0, .rv bv]⟩] ++ [⟨0, 4, [ai (x.head : Nat), ai (-1), ai 0, .rv bv]⟩]) (ol := h.length + 1) (vl := 0) (l := [x]) (cells := [ai (x.head : Nat), ai (-1), ai 0, .rv bv])
        ⟨by simp, by simp, fun i y hi => by obtain ⟨rfl, rfl⟩ := one i y hi; rfl, fun i y hi => by obtain ⟨rfl, rfl⟩ := one i y hi; rfl, fun i y hi => by obtain ⟨rfl, rfl⟩ := one i y hi; rfl, fun i y hi => by obtain ⟨rfl, rfl⟩ := one i y hi; exact ⟨bv, rfl, hb⟩⟩
      exact this
    · rw [List.append_assoc, List.getElem?_append_left ho]
  | @mk ol vl l cells k =>
    have ho := k.ob
    have hlt := get_lt ho
    have h2 := get_old ho [⟨0, 4, [ai (x.head : Nat), ai (-1), ai 0, .rv bv]⟩]
    refine ⟨.sl ol (vl + 1) 0 (l.length + 1), (h ++ [(⟨0, 4, [ai (x.head : Nat), ai (-1), ai 0, .rv bv]⟩ : Ob)]).set ol ⟨vl + 1, 4, cells ++ [ai (x.head : Nat), ai (-1), ai 0, .rv bv]⟩, fun K => ?_, ?_, by simp, fun o ho' hne => ?_, .inl rfl⟩
    · have h4 : ((l.length + 1 : Nat) : Int) ≤ room := by simp [room]; omega
      have h5 : ((48 : Nat) : Int) * ((l.length + 1 : Nat) : Int) ≤ room := by simp [room]; omega
      simp only [apn, hw, h2]
      rw [if_pos ⟨trivial, trivial, trivial, by rw [k.len]; omega, h4, h5, hall⟩, List.take_of_length_le (by rw [k.len]; omega)]
    · have at' : ∀ (i j : Nat) (y : LR), j < 4 → (l ++ [x])[i]? = some y → (cells ++ [ai (x.head : Nat), ai (-1), ai 0, .rv bv])[i * 4 + j]? = if i < l.length then cells[i * 4 + j]? else [ai (y.head : Nat), ai (-1), ai 0, .rv bv][j]? := by
        intro i j y hj hi
        by_cases hil : i < l.length
        · rw [if_pos hil, List.getElem?_append_left (by rw [k.len]; omega)]
        · rw [if_neg hil]
          have hi2 := (List.getElem?_eq_some_iff.1 hi).1
          have : i = l.length := by simp at hi2; omega
          subst this
          have : y = x := by simpa using hi.symm
          subst this
          rw [List.getElem?_append_right (by rw [k.len]; omega), k.len]
          congr 1
          omega
      have old : ∀ (i : Nat) (y : LR), (l ++ [x])[i]? = some y → i < l.length → l[i]? = some y := fun i y hi hil => by rwa [List.getElem?_append_left hil] at hi
      have last : ∀ (i : Nat) (y : LR), (l ++ [x])[i]? = some y → ¬ i < l.length → y = x := by
        intro i y hi hil
        have hi2 := (List.getElem?_eq_some_iff.1 hi).1
        have : i = l.length := by simp at hi2; omega
        subst this
        simpa using hi.symm
      have := RsAt.mk (h := (h ++ [(⟨0, 4, [ai (x.head : Nat), ai (-1), ai 0, .rv bv]⟩ : Ob)]).set ol ⟨vl + 1, 4, cells ++ [ai (x.head : Nat), ai (-1), ai 0, .rv bv]⟩) (ol := ol) (vl := vl + 1) (l := l ++ [x]) (cells := cells ++ [ai (x.head : Nat), ai (-1), ai 0, .rv bv])
        ⟨get_set_eq h2, by simp [k.len]; omega, fun i y hi => by
          have := at' i 0 y (by omega) hi
          rw [Nat.add_zero] at this
          rw [this]
          split
          · exact k.c0 i y (old i y hi ‹_›)
          · rfl, fun i y hi => by
          rw [at' i 1 y (by omega) hi]
          split
          · exact k.c1 i y (old i y hi ‹_›)
          · rfl, fun i y hi => by
          rw [at' i 2 y (by omega) hi]
          split
          · exact k.c2 i y (old i y hi ‹_›)
          · rfl, fun i y hi => by
          rw [at' i 3 y (by omega) hi]
          by_cases hil : i < l.length
          · rw [if_pos hil]
            exact k.c3 i y (old i y hi hil)
          · rw [if_neg hil]
            exact ⟨bv, rfl, last i y hi hil ▸ hb⟩⟩
      rw [List.length_append] at this
      exact this
    · have h3 : ol ≠ o := fun e => hne (by subst e; rfl)
      rw [List.getElem?_set_ne h3, List.getElem?_append_left ho']
structure RL (h : Hp) (cells : List AV) (lv : AV) (l : List LR) : Prop where
  c : h[0]? = some ⟨0, 1, cells⟩
  ls : RsAt h lv l
  ow : ∀ q, own lv = some q → 1 ≤ q
section
variable {par : Par} {P : List Nat} {p r v b : RV} {d : Cd} {x1 : RV}
open Classical in
theorem rheads {hf : formOk d.blocks = true} {hq : FlowOk d.blocks} {hP : IsPost d.blocks P} (hcd : IsCd [p, r, v, b] d) (hb : IsRows 6 IsBlk b d.blocks) (kd : Done (grOf hf hq hP) par) (hx1 : IsInts x1 (dvs par d.blocks.length)) (hsh : d.blocks.length ≤ 4096) (hple : P.length ≤ d.blocks.length)
    (hpn : ∀ (x : Nat) (q : Blk), d.blocks[x]? = some q → ∀ z ∈ q.preds, ∃ m : Nat, z = m ∧ m < d.blocks.length) (k M : Nat) (hk : 1000000000 < k)
    (Z : Option (ARes × Hp) → Prop) (outer : ∀ h lv l, RL h [.rv p, .rv r, .rv v, .rv b] lv l → Upto d.blocks par d.blocks.length l → Z (r13_Loops_p31 k lv h)) :
    ∀ (m j N : Nat) (h : Hp) (lv : AV) (l : List LR), j + m = d.blocks.length → m < N → RL h [.rv p, .rv r, .rv v, .rv b] lv l → Upto d.blocks par j l → Z (r13_Loops_l244 k N M (.ptr 0 0 0) (.rv x1) lv j h) := by
  have g := grP hf hq hP
  intro m
  induction m with
  | zero =>
    intro j N h lv l hj hN rl up
    obtain ⟨N, rfl⟩ : ∃ q, N = q + 1 := ⟨N - 1, by omega⟩
    obtain rfl : j = d.blocks.length := by omega
    rw [r13_Loops_l244_eq, pad_ptr, ldv_at rl.c (x := .rv b) rfl, hb.len, bsp_not (decide_eq_false (by omega))]
    exact outer h lv l rl up
  | succ m ih =>
    intro j N h lv l hj hN rl up
    obtain ⟨N, rfl⟩ : ∃ q, N = q + 1 := ⟨N - 1, by omega⟩
    have hjl : j < d.blocks.length := by omega
    obtain ⟨a, q, s, t', rest', k1, k2, k3, k4, hbx⟩ := blk_at (R := ARes × Hp) hb hjl
    have hs2 := k2.short
    have next : ∀ (h : Hp) (lv : AV) (l : List LR), RL h [.rv p, .rv r, .rv v, .rv b] lv l → Upto d.blocks par (j + 1) l → Z (r13_Loops_p979 k N M (.ptr 0 0 0) (.rv x1) lv j h) := by
      intro h lv l rl up
      rw [r13_Loops_p979_eq, wri_succ (by omega)]
      exact ih (j + 1) N h lv l (by omega) (by omega) rl up
    -- behind the predecessors
    have tail : Z (r13_Loops_p7827 k N M (.ptr 0 0 0) (.rv x1) lv j (decide (IsHead d.blocks par j)) h) := by
      by_cases hH : IsHead d.blocks par j
      · have hjP : j ∈ P := hH.inP hf hq hP hjl
        obtain ⟨bv, body, eb, hbi, hsrt, hmem⟩ := refBody_spec hcd hf hq hP kd hx1 hjP
        have e5 : ∀ (K : AV → Option (ARes × Hp)), bld [.rv (.int .i64 0), .rv (.int .i64 0), .rv (.int .i64 0), .rv .nils] [(some (0, 1), ai (j : Nat)), (some (1, 1), .rv (.int .i64 (-1))), (some (3, 1), .rv bv)] K = K (.agg [ai (j : Nat), ai (-1), ai 0, .rv bv]) := by
          intro K
          have v1 : ∀ n : Int, vcells (.rv (.int .i64 n)) = some [.rv (.int .i64 n)] := fun _ => rfl
          simp [bld, fillA, v1, hbi.cells, setAt]
        have e6 : ∀ (K : AV → Hp → Option (ARes × Hp)), bsl 4 1 [.rv (.int .i64 0), .rv (.int .i64 0), .rv (.int .i64 0), .rv .nils] [(some (0, 4), .agg [ai (j : Nat), ai (-1), ai 0, .rv bv])] h K = K (.sl h.length 0 0 1) (h ++ [⟨0, 4, [ai (j : Nat), ai (-1), ai 0, .rv bv]⟩]) := by
          intro K
          simp [bsl, fillA, vcells, zrep, setAt]
        have hll := up.len
        obtain ⟨w, h3, hK, rs, hlt, hkeep, how⟩ := rl.ls.push (by omega) ⟨j, 0, body⟩ hbi
        have h0 := get_lt rl.c
        rw [r13_Loops_p7827_eq, bsp_of (decide_eq_true hH), ldg_at (n := 4) rl.c rfl, callP_ret (by simp [toRV, depthA]) eb (.inl rfl), e5, e6, hK]
        refine next h3 w _ ⟨by rw [hkeep 0 h0 fun e => by have := rl.ow 0 e; omega]; exact rl.c, rs, fun q hq => ?_⟩ (up.push hH rfl ⟨hsrt, hmem⟩)
        rcases how with e | ⟨o, e, ho⟩
        · exact rl.ow q (by rw [← e]; exact hq)
        · rw [hq] at e; cases e; omega
      · rw [r13_Loops_p7827_eq, bsp_not (decide_eq_false hH)]
        exact next h lv l rl (up.skip hH)
    have hpl : (prd d.blocks j).length = d.blocks[j].preds.length := by rw [prd_at hjl, List.length_map]
    have inner : ∀ (m' i N' : Nat) (c : Bool), i + m' = d.blocks[j].preds.length → m' < N' → (c = true ↔ ∃ (t x : Nat), t < i ∧ (prd d.blocks j)[t]? = some x ∧ Anc par x j) → Z (r13_Loops_l62612 k N M N' h.length (.ptr 0 0 0) (.rv x1) lv j c i h) := by
      intro m'
      induction m' with
      | zero =>
        intro i N' c hi hN' hc
        obtain ⟨N', rfl⟩ : ∃ q, N' = q + 1 := ⟨N' - 1, by omega⟩
        have hcH : c = decide (IsHead d.blocks par j) := by
          rw [Bool.eq_iff_iff, hc, decide_eq_true_eq]
          constructor
          · rintro ⟨t, x, _, hx, ha⟩
            exact ⟨x, List.mem_of_getElem? hx, ha⟩
          · rintro ⟨x, hx, ha⟩
            obtain ⟨t, ht, e⟩ := List.getElem_of_mem hx
            exact ⟨t, x, by omega, by rw [List.getElem?_eq_getElem ht, e], ha⟩
        rw [r13_Loops_l62612_eq, pad_ptr, ldv_at rl.c (x := .rv b) rfl, hbx, pad_rop3, ldv_rop, k2.len, bsp_not (decide_eq_false (by omega)), hcH]
        exact tail
      | succ m' ih' =>
        intro i N' c hi hN' hc
        obtain ⟨N', rfl⟩ : ∃ q, N' = q + 1 := ⟨N' - 1, by omega⟩
        have hil : i < d.blocks[j].preds.length := by omega
        obtain ⟨y, hy, hyl⟩ := hpn j _ (List.getElem?_eq_getElem hjl) _ (List.getElem_mem hil)
        have hpy : (prd d.blocks j)[i]? = some y := by rw [prd_at hjl, List.getElem?_map, List.getElem?_eq_getElem hil, hy]; simp
        have hjP : j ∈ P := by
          apply Classical.byContradiction
          intro hn
          rw [hole_prd hf hq hP hjl hn] at hpy
          simp at hpy
        have hyP := (grOf hf hq hP).pin j hjP y (List.mem_of_getElem? hpy)
        have hD := Dominates_spec kd g hsh hple hx1 j (y := y) ((g.mem y).2 hyP)
        have step : ∀ c' : Bool, (c' = true ↔ ∃ (t x : Nat), t < i + 1 ∧ (prd d.blocks j)[t]? = some x ∧ Anc par x j) → Z (r13_Loops_p250451 k N M N' h.length (.ptr 0 0 0) (.rv x1) lv j c' i h) := by
          intro c' hc'
          rw [r13_Loops_p250451_eq, wri_succ (by omega)]
          exact ih' (i + 1) N' c' (by omega) (by omega) hc'
        rw [r13_Loops_l62612_eq, pad_ptr, ldv_at rl.c (x := .rv b) rfl, hbx, pad_rop3, ldv_rop, k2.len, bsp_of (decide_eq_true (by omega))]
        cases c with
        | true =>
          rw [bsp_of rfl]
          obtain ⟨t, x, h1, h2, h3⟩ := hc.1 rfl
          exact step true ⟨fun _ => ⟨t, x, by omega, h2, h3⟩, fun _ => rfl⟩
        | false =>
          rw [bsp_not rfl, pad_ptr, ldv_at rl.c (x := .rv b) rfl, hbx, pad_rop3, ldv_rop, k2.at hil, hy, callP_ret (by simp [toRV, depthA]) hD (.inr rfl), asBool_b]
          refine step _ ?_
          rw [decide_eq_true_eq]
          constructor
          · exact fun ha => ⟨i, y, by omega, hpy, ha⟩
          · rintro ⟨t, x, h1, h2, h3⟩
            by_cases e : t = i
            · subst e
              rw [hpy] at h2
              cases h2
              exact h3
            · have := hc.2 ⟨t, x, by omega, h2, h3⟩
              cases this
    rw [r13_Loops_l244_eq, pad_ptr, ldv_at rl.c (x := .rv b) rfl, hb.len, bsp_of (decide_eq_true (by omega)), show ((0 : Int)) = ((0 : Nat) : Int) from rfl]
    refine inner d.blocks[j].preds.length 0 k false (by omega) (by omega) ⟨fun h => (by cases h), ?_⟩
    rintro ⟨t, x, h1, _⟩
    omega
end
end Go.Proofs.Ytknphnmhjmejaaa
/-  The document's loops: their outer ones, their depths; the same as the program's. No conditions. -/
namespace Go.Proofs.Ytknphnmhjmejaaa
set_option linter.unusedVariables false
theorem Deep.one {outs : Nat → Int} {i d d' : Nat} (h : Deep outs i d) (k : Deep outs i d') : d = d' := by
  induction h generalizing d' with
  | top h =>
    cases k with
    | top => rfl
    | up h' => rw [h] at h'; omega
  | up h r ih =>
    cases k with
    | top h' => rw [h] at h'; omega
    | up h' r' =>
      rw [h] at h'
      have : _ = _ := Int.ofNat.inj h'
      subst this
      rw [ih r']
theorem Deep.chain {outs : Nat → Int} {n : Nat} (hlt : ∀ i, i < n → outs i < n) {i d : Nat} (h : Deep outs i d) : i < n → ∃ L : List Nat, L.length = d ∧ L.Nodup ∧ ∀ x ∈ L, x < n ∧ ∃ e, Deep outs x e ∧ e ≤ d := by
  induction h with
  | @top i h =>
    intro hi
    refine ⟨[i], rfl, by simp, fun x hx => ?_⟩
    have : x = i := by simpa using hx
    subst this
    exact ⟨hi, 1, .top h, Nat.le_refl _⟩
  | @up i j d h r ih =>
    intro hi
    have hj := hlt i hi
    rw [h] at hj
    obtain ⟨L, h1, h2, h3⟩ := ih (by omega)
    refine ⟨i :: L, by simp [h1], ?_, fun x hx => ?_⟩
    · rw [List.nodup_cons]
      refine ⟨fun hm => ?_, h2⟩
      obtain ⟨_, e, he, hle⟩ := h3 i hm
      have := he.one (.up h r)
      omega
    · rcases List.mem_cons.1 hx with e | hx
      · rw [e]; exact ⟨hi, d + 1, .up h r, Nat.le_refl _⟩
      · obtain ⟨h4, e, h5, h6⟩ := h3 x hx
        exact ⟨h4, e, h5, by omega⟩
theorem Deep.le {outs : Nat → Int} {n : Nat} (hlt : ∀ i, i < n → outs i < n) {i d : Nat} (h : Deep outs i d) (hi : i < n) : d ≤ n := by
  obtain ⟨L, h1, h2, h3⟩ := h.chain hlt hi
  have := nodup_le n L h2 fun x hx => (h3 x hx).1
  omega
section
variable {ol vl : Nat} {l : List LR}
theorem rouin (hl : l.length ≤ 4096) (hs : ∀ x ∈ l, x.body.length < 1000000000) (kk N4 M4 M i : Nat) (hi : i < l.length) (Z : Option (ARes × Hp) → Prop)
    (outer : ∀ h cells, RC h ol vl l (OS l i l.length) (fun _ => 0) cells → Z (r13_Loops_p2003 kk N4 M4 (.sl ol vl 0 l.length) i h)) :
    ∀ (m k N : Nat) (h : Hp) (cells : List AV), k + m = l.length → m < N → RC h ol vl l (OS l i k) (fun _ => 0) cells → Z (r13_Loops_l32036 kk N4 M4 N M (.sl ol vl 0 l.length) i k h) := by
  intro m
  induction m with
  | zero =>
    intro k N h cells hk hN ls
    obtain ⟨N, rfl⟩ : ∃ q, N = q + 1 := ⟨N - 1, by omega⟩
    obtain rfl : k = l.length := by omega
    rw [r13_Loops_l32036_eq, sl_len, bsp_not (decide_eq_false (by omega))]
    exact outer h cells ls
  | succ m ih =>
    intro k N h cells hk hN ls
    obtain ⟨N, rfl⟩ : ∃ q, N = q + 1 := ⟨N - 1, by omega⟩
    have hkl : k < l.length := by omega
    have hx := List.getElem?_eq_getElem hi
    have hy := List.getElem?_eq_getElem hkl
    have hym := List.getElem_mem hkl
    have lc := ls
    obtain ⟨bv, hbv, hbi⟩ := lc.c3 k _ hy
    have hIn := In_spec hbi (l[i].head : Nat)
    have hoi : OS l i k i = ofold l i k := by unfold OS; rw [if_neg (by omega), if_pos rfl]
    have next : ∀ c : Bool, (c = true ↔ k ≠ i ∧ (l[i].head : Int) ∈ l[k].body ∧ (ofold l i k < 0 ∨ l[k].body.length < ((l[(ofold l i k).toNat]?).map (·.body.length)).getD 0)) → Z (r13_Loops_p1025171 kk N4 M4 N M (.sl ol vl 0 l.length) i k c h) := by
      intro c hc
      have hst : ofold l i (k + 1) = if c = true then (k : Int) else ofold l i k := by
        rw [ofold_succ]
        unfold ostep
        rw [hx, hy]
        simp only
        by_cases h1 : c = true
        · rw [if_pos h1, if_pos (hc.1 h1)]
        · rw [if_neg h1, if_neg fun h2 => h1 (hc.2 h2)]
      cases c with
      | true =>
        have hS := ls.set1 i (k : Int)
        have : (fun t => if t = i then (k : Int) else OS l i k t) = OS l i (k + 1) := by
          funext t
          by_cases e : t = i
          · subst e
            rw [if_pos rfl]
            unfold OS
            rw [if_neg (by omega), if_pos rfl, hst]
            rfl
          · rw [if_neg e]
            unfold OS
            simp only [if_neg e]
        rw [this] at hS
        rw [r13_Loops_p1025171_eq, bsp_of rfl, sl_atn hi, pad_ptr, stv_at lc.ob (by rw [lc.len]; omega) rfl rfl, r13_Loops_p128147_eq, wri_succ (by omega)]
        exact ih (k + 1) N _ _ (by omega) (by omega) hS
      | false =>
        have : OS l i k = OS l i (k + 1) := by
          funext t
          unfold OS
          rw [hst]
          rfl
        rw [this] at ls
        rw [r13_Loops_p1025171_eq, bsp_not rfl, r13_Loops_p128147_eq, wri_succ (by omega)]
        exact ih (k + 1) N _ _ (by omega) (by omega) ls
    rw [r13_Loops_l32036_eq, sl_len, bsp_of (decide_eq_true (by omega)), sl_atn hi, pad_ptr, ldi_at lc.ob (lc.c1 i _ hx), hoi]
    by_cases hki : k = i
    · rw [bsp_not (by rw [bne_eq_false_iff_eq]; omega)]
      exact next false ⟨fun h => (by cases h), fun h => absurd hki h.1⟩
    · rw [bsp_of (by rw [bne_iff_ne]; omega), sl_atn hkl, pad_ptr, ldv_at lc.ob hbv, sl_atn hi, pad_ptr, Nat.add_zero, ldi_at lc.ob (n := (l[i].head : Nat)) (lc.c0 i _ hx), callP_ret (by simp [toRV, depthA]) hIn (.inr rfl), asBool_b]
      by_cases hin : (l[i].head : Int) ∈ l[k].body
      · rw [bsp_of (decide_eq_true hin)]
        rcases ofold_ok l i k with ho | ⟨j0, x0, y0, ho, hj0, _, hy0, _⟩
        · rw [ho, bsp_of (by rfl)]
          exact next true ⟨fun _ => ⟨hki, hin, .inl (by rw [ho]; omega)⟩, fun _ => rfl⟩
        · have hj0l : j0 < l.length := by omega
          obtain ⟨bw, hbw, hbwi⟩ := lc.c3 j0 _ hy0
          rw [ho, bsp_not (decide_eq_false (by omega)), sl_atn hkl, pad_ptr, ldv_at lc.ob hbv, hbi.len, sl_atn hj0l, pad_ptr, ldv_at lc.ob hbw, hbwi.len]
          refine next _ ?_
          rw [ho, Int.toNat_natCast, hy0, decide_eq_true_eq]
          simp only [Option.map_some, Option.getD_some]
          exact ⟨fun h => ⟨hki, hin, .inr (by omega)⟩, fun h => by omega⟩
      · rw [bsp_not (decide_eq_false hin)]
        exact next false ⟨fun h => (by cases h), fun h => absurd h.2.1 hin⟩
theorem rouout (hl : l.length ≤ 4096) (hs : ∀ x ∈ l, x.body.length < 1000000000) (kk M : Nat) (hk : 1000000000 < kk) (Z : Option (ARes × Hp) → Prop)
    (outer : ∀ h cells, RC h ol vl l (OS l l.length 0) (fun _ => 0) cells → Z (r13_Loops_p63 kk (.sl ol vl 0 l.length) h)) :
    ∀ (m i N : Nat) (h : Hp) (cells : List AV), i + m = l.length → m < N → RC h ol vl l (OS l i 0) (fun _ => 0) cells → Z (r13_Loops_l500 kk N M (.sl ol vl 0 l.length) i h) := by
  intro m
  induction m with
  | zero =>
    intro i N h cells hi hN ls
    obtain ⟨N, rfl⟩ : ∃ q, N = q + 1 := ⟨N - 1, by omega⟩
    obtain rfl : i = l.length := by omega
    rw [r13_Loops_l500_eq, sl_len, bsp_not (decide_eq_false (by omega))]
    exact outer h cells ls
  | succ m ih =>
    intro i N h cells hi hN ls
    obtain ⟨N, rfl⟩ : ∃ q, N = q + 1 := ⟨N - 1, by omega⟩
    rw [r13_Loops_l500_eq, sl_len, bsp_of (decide_eq_true (by omega)), show ((0 : Int)) = ((0 : Nat) : Int) from rfl]
    refine rouin hl hs kk N M _ i (by omega) Z (fun h cells ls => ?_) l.length 0 kk h cells (by omega) (by omega) ls
    rw [r13_Loops_p2003_eq, wri_succ (by omega)]
    rw [OS_next] at ls
    exact ih (i + 1) N h cells (by omega) (by omega) ls
theorem rdown (hl : l.length ≤ 4096) (kk N4 M4 M i : Nat) {ds : Nat → Int} {h : Hp} {cells : List AV} (lc : RC h ol vl l (ofin l) ds cells) (hlt : ∀ t, t < l.length → ofin l t < l.length) {j d : Nat} (r : Deep (ofin l) j d) :
    ∀ (N n : Nat), j < l.length → n + d ≤ l.length + 1 → d < N → r13_Loops_l259220 kk N4 M4 N M (.sl ol vl 0 l.length) i n j h = r13_Loops_p32403 kk N4 M4 (.sl ol vl 0 l.length) i ((n + d : Nat) : Int) h := by
  induction r with
  | @top j hj =>
    intro N n hjl hn hN
    obtain ⟨N, rfl⟩ : ∃ q, N = q + 1 + 1 := ⟨N - 2, by omega⟩
    have hx := List.getElem?_eq_getElem hjl
    rw [r13_Loops_l259220_eq, bsp_of (decide_eq_true (by omega)), sl_len, r13_Loops_p1036881_eq, bsp_of (decide_eq_true (by omega)), sl_atn hjl, pad_ptr, ldi_at lc.ob (lc.c1 j _ hx), hj, wri_succ (by omega), r13_Loops_l259220_eq, bsp_not (by rfl), r13_Loops_p1036881_eq, bsp_not rfl]
  | @up j j' d hj r ih =>
    intro N n hjl hn hN
    obtain ⟨N, rfl⟩ : ∃ q, N = q + 1 := ⟨N - 1, by omega⟩
    have hx := List.getElem?_eq_getElem hjl
    have hjl' := hlt j hjl
    rw [hj] at hjl'
    rw [r13_Loops_l259220_eq, bsp_of (decide_eq_true (by omega)), sl_len, r13_Loops_p1036881_eq, bsp_of (decide_eq_true (by omega)), sl_atn hjl, pad_ptr, ldi_at lc.ob (lc.c1 j _ hx), hj, wri_succ (by omega), ih N (n + 1) (by omega) (by omega) (by omega), show n + 1 + d = n + (d + 1) by omega]
theorem rdepth (hl : l.length ≤ 4096) (dep : Nat → Nat) (hdep : ∀ i, i < l.length → Deep (ofin l) i (dep i)) (kk M : Nat) (hk : 1000000000 < kk) (Z : Option (ARes × Hp) → Prop)
    (outer : ∀ h cells, RC h ol vl l (ofin l) (DS dep l.length) cells → Z (r13_Loops_p127 kk (.sl ol vl 0 l.length) h)) :
    ∀ (m i N : Nat) (h : Hp) (cells : List AV), i + m = l.length → m < N → RC h ol vl l (ofin l) (DS dep i) cells → Z (r13_Loops_l1012 kk N M (.sl ol vl 0 l.length) i h) := by
  have hlt : ∀ t, t < l.length → ofin l t < l.length := fun t ht => by
    rcases ofold_ok l t l.length with h | ⟨j, _, _, h, hj, _⟩
    · show ofold l t l.length < _
      omega
    · show ofold l t l.length < _
      omega
  intro m
  induction m with
  | zero =>
    intro i N h cells hi hN ls
    obtain ⟨N, rfl⟩ : ∃ q, N = q + 1 := ⟨N - 1, by omega⟩
    obtain rfl : i = l.length := by omega
    rw [r13_Loops_l1012_eq, sl_len, bsp_not (decide_eq_false (by omega))]
    exact outer h cells ls
  | succ m ih =>
    intro i N h cells hi hN ls
    obtain ⟨N, rfl⟩ : ∃ q, N = q + 1 := ⟨N - 1, by omega⟩
    have hil : i < l.length := by omega
    have hd := hdep i hil
    have hdl := hd.le hlt hil
    have e1 := rdown hl kk N M h.length i ls hlt hd kk 0 hil (by omega) (by omega)
    rw [Nat.zero_add] at e1
    rw [r13_Loops_l1012_eq, sl_len, bsp_of (decide_eq_true (by omega))]
    refine e1 ▸ ?_
    rw [r13_Loops_p32403_eq, sl_atn hil, pad_ptr, stv_at ls.ob (by rw [ls.len]; omega) rfl rfl, r13_Loops_p4051_eq, wri_succ (by omega)]
    have hS := ls.set2 i (dep i : Int)
    have : (fun t => if t = i then (dep i : Int) else DS dep i t) = DS dep (i + 1) := by
      funext t
      unfold DS
      by_cases e : t = i
      · subst e
        rw [if_pos rfl, if_pos (by omega)]
      · rw [if_neg e]
        by_cases e2 : t < i
        · rw [if_pos e2, if_pos (by omega)]
        · rw [if_neg e2, if_neg (by omega)]
    rw [this] at hS
    exact ih (i + 1) N _ _ (by omega) (by omega) hS
theorem rloops_rv {h : Hp} {cells : List AV} (hl : l.length ≤ 4096) (dep : Nat → Nat) (lc : RC h ol vl l (ofin l) (DS dep l.length) cells) :
    ∃ x, toRV h depthA (.sl ol vl 0 l.length) = some x ∧ IsRows 4 IsLp x (lpsOf l dep) := by
  have key : ∀ (m i : Nat), i + m = l.length → ∃ cs, (cells.drop (i * 4)).mapM (toRV h 11) = some cs ∧ Rows 4 IsLp cs ((List.range' i m).map (lpOf l dep)) := by
    intro m
    induction m with
    | zero =>
      intro i hi
      rw [List.drop_eq_nil_of_le (by rw [lc.len]; omega)]
      exact ⟨[], rfl, .nil⟩
    | succ m ih =>
      intro i hi
      have hil : i < l.length := by omega
      have hx := List.getElem?_eq_getElem hil
      obtain ⟨cs, h1, h2⟩ := ih (i + 1) (by omega)
      obtain ⟨bx, g3, hbi⟩ := lc.c3 i _ hx
      have l0 := (List.getElem?_eq_some_iff.1 (lc.c0 i _ hx))
      have l1 := (List.getElem?_eq_some_iff.1 (lc.c1 i _ hx))
      have l2 := (List.getElem?_eq_some_iff.1 (lc.c2 i _ hx))
      have l3 := (List.getElem?_eq_some_iff.1 g3)
      have hd : cells.drop (i * 4) = ai (l[i].head : Nat) :: ai (ofin l i) :: ai (DS dep l.length i) :: .rv bx :: cells.drop ((i + 1) * 4) := by
        rw [List.drop_eq_getElem_cons l0.1, List.drop_eq_getElem_cons l1.1, List.drop_eq_getElem_cons l2.1, List.drop_eq_getElem_cons l3.1, l0.2, l1.2, l2.2, l3.2, show (i + 1) * 4 = i * 4 + 3 + 1 by omega]
      refine ⟨I (l[i].head : Nat) :: I (ofin l i) :: I (dep i : Nat) :: bx :: cs, ?_, ?_⟩
      · have t1 : ∀ x : RV, toRV h 11 (.rv x) = some x := fun _ => rfl
        have hdi : DS dep l.length i = (dep i : Nat) := by unfold DS; rw [if_pos hil]
        rw [hd, hdi]
        simp only [List.mapM_cons, h1, t1]
        rfl
      · rw [List.range'_succ, List.map_cons]
        have : Rows 4 IsLp ([I (l[i].head : Nat), I (ofin l i), I (dep i : Nat), bx] ++ cs) (lpOf l dep i :: (List.range' (i + 1) m).map (lpOf l dep)) := .cons rfl ⟨bx, by simp [lpOf, hx], by simpa [lpOf, hx] using hbi⟩ h2
        exact this
  obtain ⟨cs, h1, h2⟩ := key l.length 0 (by omega)
  rw [Nat.zero_mul, List.drop_zero] at h1
  rw [← List.range_eq_range'] at h2
  refine ⟨.ros cs l.length, ?_, ?_⟩
  · simp only [depthA, toRV, lc.ob]
    rw [if_pos (by rw [lc.len]; exact ⟨trivial, by omega⟩), List.drop_zero, List.take_of_length_le (by rw [lc.len]; omega), h1]
    rfl
  · have := IsRows.mk h2 (by simp; omega)
    simpa [lpsOf] using this
end
/-! ### Two lists of all loops are one -/
theorem up_ext {α : Type} {lt : α → α → Prop} (irr : ∀ a, ¬ lt a a) (tr : ∀ a b, lt a b → ¬ lt b a) : ∀ {l l' : List α}, l.Pairwise lt → l'.Pairwise lt → (∀ x, x ∈ l ↔ x ∈ l') → l = l'
  | [], [], _, _, _ => rfl
  | [], b :: _, _, _, h => by have := (h b).2 (by simp); cases this
  | a :: _, [], _, _, h => by have := (h a).1 (by simp); cases this
  | a :: l, b :: l', h1, h2, h => by
    rw [List.pairwise_cons] at h1 h2
    have hab : a = b := by
      rcases List.mem_cons.1 ((h a).1 (by simp)) with e | ha
      · exact e
      · rcases List.mem_cons.1 ((h b).2 (by simp)) with e | hb
        · exact e.symm
        · exact absurd (h1.1 b hb) (tr b a (h2.1 a ha))
    subst hab
    rw [up_ext irr tr h1.2 h2.2 fun x => ?_]
    constructor
    · intro hx
      rcases List.mem_cons.1 ((h x).1 (by simp [hx])) with e | hx'
      · subst e
        exact absurd (h1.1 x hx) (irr x)
      · exact hx'
    · intro hx
      rcases List.mem_cons.1 ((h x).2 (by simp [hx])) with e | hx'
      · subst e
        exact absurd (h2.1 x hx) (irr x)
      · exact hx'
theorem upto_same {bs : List Blk} {par : Par} {n : Nat} {l l' : List LR} (h : Upto bs par n l) (h' : Upto bs par n l') : l.map (fun x => (x.head, x.body)) = l'.map (fun x => (x.head, x.body)) := by
  have one : ∀ {l l' : List LR}, Upto bs par n l → Upto bs par n l' → ∀ z, z ∈ l.map (fun x => (x.head, x.body)) → z ∈ l'.map (fun x => (x.head, x.body)) := by
    intro l l' h h' z hz
    rw [List.mem_map] at hz ⊢
    obtain ⟨x, hx, rfl⟩ := hz
    obtain ⟨b1, b2, b3⟩ := h.ok x hx
    obtain ⟨y, hy, e⟩ := h'.all x.head b2 b3
    obtain ⟨c1, _, _⟩ := h'.ok y hy
    refine ⟨y, hy, ?_⟩
    have : y.body = x.body := up_ext (lt := fun (a b : Int) => a < b) (fun a => Int.lt_irrefl a) (fun a b h1 h2 => by omega) c1.sorted b1.sorted fun z => by rw [c1.mem, b1.mem, e]
    rw [e, this]
  have srt : ∀ {l : List LR}, Upto bs par n l → (l.map (fun x => (x.head, x.body))).Pairwise (fun a b => a.1 < b.1) := by
    intro l h
    rw [List.pairwise_map]
    exact h.up
  exact up_ext (lt := fun (a b : Nat × List Int) => a.1 < b.1) (fun a => Nat.lt_irrefl _) (fun a b h1 h2 => by omega) (srt h) (srt h') fun z => ⟨one h h' z, one h' h z⟩
section
variable {l l' : List LR}
theorem same_at (h : l.map (fun x => (x.head, x.body)) = l'.map (fun x => (x.head, x.body))) (i : Nat) : (l[i]? = none ∧ l'[i]? = none) ∨ ∃ x y : LR, l[i]? = some x ∧ l'[i]? = some y ∧ x.head = y.head ∧ x.body = y.body := by
  have := congrArg (fun t => t[i]?) h
  simp only [List.getElem?_map] at this
  cases h1 : l[i]? with
  | none =>
    cases h2 : l'[i]? with
    | none => exact .inl ⟨rfl, rfl⟩
    | some y => rw [h1, h2] at this; cases this
  | some x =>
    cases h2 : l'[i]? with
    | none => rw [h1, h2] at this; cases this
    | some y =>
      rw [h1, h2] at this
      simp only [Option.map_some, Option.some.injEq, Prod.mk.injEq] at this
      exact .inr ⟨x, y, rfl, rfl, this.1, this.2⟩
theorem same_len (h : l.map (fun x => (x.head, x.body)) = l'.map (fun x => (x.head, x.body))) : l.length = l'.length := by
  have := congrArg List.length h
  simpa using this
theorem same_step (h : l.map (fun x => (x.head, x.body)) = l'.map (fun x => (x.head, x.body))) (i : Nat) (o : Int) (k : Nat) : ostep l i o k = ostep l' i o k := by
  have hb : ∀ t : Nat, (l[t]?).map (fun x => x.body.length) = (l'[t]?).map (fun x => x.body.length) := by
    intro t
    rcases same_at h t with ⟨h1, h2⟩ | ⟨x, y, h1, h2, _, e⟩
    · rw [h1, h2]
    · rw [h1, h2, Option.map_some, Option.map_some, e]
  unfold ostep
  rw [hb]
  rcases same_at h i with ⟨h1, h2⟩ | ⟨x, y, h1, h2, e1, e2⟩
  · rw [h1, h2]
  · rcases same_at h k with ⟨g1, g2⟩ | ⟨x', y', g1, g2, e3, e4⟩
    · rw [h1, h2, g1, g2]
    · rw [h1, h2, g1, g2]
      simp only [e1, e4]
theorem same_fin (h : l.map (fun x => (x.head, x.body)) = l'.map (fun x => (x.head, x.body))) : ofin l = ofin l' := by
  funext i
  unfold ofin ofold
  rw [same_len h, show ostep l i = ostep l' i from funext fun o => funext fun k => same_step h i o k]
theorem same_lps (h : l.map (fun x => (x.head, x.body)) = l'.map (fun x => (x.head, x.body))) (dep : Nat → Nat) : lpsOf l dep = lpsOf l' dep := by
  unfold lpsOf
  rw [same_len h]
  refine List.map_congr_left fun i _ => ?_
  unfold lpOf
  rw [same_fin h]
  rcases same_at h i with ⟨h1, h2⟩ | ⟨x, y, h1, h2, e1, e2⟩
  · rw [h1, h2]
  · rw [h1, h2]
    simp only [e1, e2]
end
theorem refLoops_spec {cs : List RV} {d : Cd} (hd : IsCd cs d) (hf : formOk d.blocks = true) (hq : FlowOk d.blocks) {P : List Nat} (hP : IsPost d.blocks P) {par : Par} (kd : Done (grOf hf hq hP) par) {l : List LR} {dep : Nat → Nat} (up : Upto d.blocks par d.blocks.length l) (hdep : ∀ i, i < l.length → Deep (ofin l) i (dep i)) :
    ∃ x, F_r13_Loops [.agg cs] = some (.ret x) ∧ IsRows 4 IsLp x (lpsOf l dep) := by
  have hl : 0 < d.blocks.length ∧ d.blocks.length ≤ 4096 := by
    simp only [formOk, Bool.and_eq_true, decide_eq_true_eq] at hf
    exact hf.1
  have hcd := hd
  have g := grP hf hq hP
  have hple : P.length ≤ d.blocks.length := nodup_le _ P g.nd g.lt
  obtain ⟨x1, e1, hx1⟩ := refDoms_spec hd hf hq hP kd
  obtain ⟨p, r, v, b, rfl, _, _, _, hb⟩ := hd
  have main : ∃ h' lv x, r13_Loops_l244 big big 1 (.ptr 0 0 0) (.rv x1) (.rv .nils) ((0 : Nat) : Int) [⟨0, 1, [.rv p, .rv r, .rv v, .rv b]⟩] = some (.ret lv, h') ∧ toRV h' depthA lv = some x ∧ IsRows 4 IsLp x (lpsOf l dep) := by
    refine rheads hcd hb kd hx1 hl.2 hple (formOk_preds hf) big 1 (by rw [big_val]; omega) (fun z => ∃ h' lv x, z = some (.ret lv, h') ∧ toRV h' depthA lv = some x ∧ IsRows 4 IsLp x (lpsOf l dep)) (fun h lv l' rl up' => ?_) d.blocks.length 0 big _ _ [] (by omega) (by rw [big_val]; omega) ⟨rfl, .nil, by simp [own]⟩ ⟨by simp, by simp, fun hd h => by omega⟩
    have same := upto_same up up'
    have hll := up'.len
    rw [same_lps same]
    have hdep' : ∀ i, i < l'.length → Deep (ofin l') i (dep i) := fun i hi => by
      rw [← same_fin same]
      exact hdep i (by rw [same_len same]; exact hi)
    have hs : ∀ x ∈ l', x.body.length < 1000000000 := by
      intro x hx
      have := sorted_len (n := d.blocks.length) (up'.ok x hx).1.sorted fun y hy => by
        obtain ⟨z, rfl, _, h, _⟩ := up'.body_lt kd hx hy
        omega
      omega
    have hls := rl.ls
    cases hls with
    | nil =>
      have eb : big = (big - 1) + 1 := by rw [big_val]
      have e0 : ∀ K : Int → Option (ARes × Hp), lna (.rv .nils) K = K 0 := fun K => rfl
      have s1 : ∀ (k M : Nat), r13_Loops_l500 (k + 1) (k + 1) M (.rv .nils) 0 h = some (.ret (.rv .nils), h) := by
        intro k M
        rw [r13_Loops_l500_eq, e0, bsp_not (by rfl), r13_Loops_p63_eq, r13_Loops_l1012_eq, e0, bsp_not (by rfl), r13_Loops_p127_eq]
      rw [r13_Loops_p31_eq, eb, s1]
      exact ⟨h, .rv .nils, .nils, rfl, rfl, .nil⟩
    | @mk ol vl l cells lc =>
      have ls0 : RC h ol vl l' (OS l' 0 0) (fun _ => 0) cells := by rw [OS_start]; exact lc
      rw [r13_Loops_p31_eq, show ((0 : Int)) = ((0 : Nat) : Int) from rfl]
      refine rouout (by omega) hs big _ (by rw [big_val]; omega) (fun z => ∃ h' lv x, z = some (.ret lv, h') ∧ toRV h' depthA lv = some x ∧ IsRows 4 IsLp x (lpsOf l' dep)) (fun h cells ls => ?_) l'.length 0 big h cells (by omega) (by rw [big_val]; omega) ls0
      have k1 : RC h ol vl l' (ofin l') (DS dep 0) cells := by
        refine ⟨ls.ob, ls.len, ls.c0, fun i x hx => ?_, fun i x hx => ?_, ls.c3⟩
        · rw [ls.c1 i x hx]
          have := (List.getElem?_eq_some_iff.1 hx).1
          unfold OS
          rw [if_pos this]
        · rw [ls.c2 i x hx]
          rfl
      rw [r13_Loops_p63_eq, show ((0 : Int)) = ((0 : Nat) : Int) from rfl]
      refine rdepth (by omega) dep hdep' big _ (by rw [big_val]; omega) (fun z => ∃ h' lv x, z = some (.ret lv, h') ∧ toRV h' depthA lv = some x ∧ IsRows 4 IsLp x (lpsOf l' dep)) (fun h cells ls => ?_) l'.length 0 big h cells (by omega) (by rw [big_val]; omega) k1
      obtain ⟨x, hx, hr⟩ := rloops_rv (by omega) dep ls
      rw [r13_Loops_p127_eq]
      exact ⟨h, _, x, rfl, hx, hr⟩
  obtain ⟨h', lv, x, e, hx, hr⟩ := main
  refine ⟨x, ?_, hr⟩
  unfold F_r13_Loops
  rw [List.map_cons, List.map_nil, r13_Loops_eq, box_agg, List.nil_append, List.length_nil, show List.map AV.rv [p, r, v, b] = [.rv p, .rv r, .rv v, .rv b] from rfl, ldg_at (by rfl) (by rfl), callP_ret (by simp [toRV, depthA]) e1 (.inl rfl)]
  refine (congrArg pureR e).trans ?_
  simp only [pureR, hx]
  rfl
end Go.Proofs.Ytknphnmhjmejaaa
