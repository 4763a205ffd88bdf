/-  What the program's Flow and its Post tell. No conditions. -/
import Derived.Test.YtknphnmhjmejaaaHe
import Derived.Test.YtknphnmhjmejaaaGb4
namespace Go.Proofs.Ytknphnmhjmejaaa
set_option linter.unusedVariables false
theorem caught_none (xs : List AV) (o v off : Nat) (h : Hp) : D_ssa_caught none [.ptr o v off] h = some h := by
  unfold D_ssa_caught
  rw [ssa_caught_eq]
  rfl
theorem caught_some {o v es off : Nat} {cells : List AV} {h : Hp} (ho : h[o]? = some ⟨v, es, cells⟩) (hl : off < cells.length) (e : Int) : D_ssa_caught (some (.rv (errA e))) [.ptr o v off] h = some (h.set o ⟨v, es, cells.set off (ai e)⟩) := by
  have h1 : ∀ (K : Bool → Option Hp), nilEq false 4 (recV (some (.rv (errA e)))) K = K false := fun K => rfl
  have h2 : ∀ (K : AV → Option Hp), tasA 32 (some (.rv (.int .i64 0))) (recV (some (.rv (errA e)))) K = K (.tuple [.rv (I e), ab true]) := fun K => rfl
  have h3 : ∀ (K : AV → Option Hp), xtr (.tuple [.rv (I e), ab true]) 0 K = K (.rv (I e)) := fun K => rfl
  have h4 : ∀ (K : AV → Option Hp), xtr (.tuple [.rv (I e), ab true]) 1 K = K (ab true) := fun K => rfl
  unfold D_ssa_caught
  rw [ssa_caught_eq, h1, bsp_not rfl, h2, h3, asInt_i, h4, asBool_b, bsp_not (by rfl), ssa_caught_p31_eq, nck_ptr, stv_at ho hl rfl rfl]
theorem fdk_some {R : Type} {D : Dfd} {pv : Option AV} {dargs : List AV} {h h' : Hp} (e : D pv dargs h = some h') (K : Hp → Option R) : fdk D pv dargs h K = K h' := by
  simp only [fdk, e]
theorem ssaFlow_spec {cs : List RV} {d : Cd} (hd : IsCd cs d) :
    (formOk d.blocks = false → F_ssa_Flow [.agg cs] = some (.ret (I 130))) ∧ (formOk d.blocks = true → FlowOk d.blocks → F_ssa_Flow [.agg cs] = some (.ret (I 0))) ∧ (formOk d.blocks = true → ¬ FlowOk d.blocks → F_ssa_Flow [.agg cs] = some (.ret (I 131))) := by
  have hd' := hd
  obtain ⟨p, r, v, b, rfl, _, _, _, hb⟩ := hd
  let h8 : Hp := [⟨0, 1, [.rv p, .rv r, .rv v, .rv b]⟩, ⟨0, 1, [ai 0]⟩, ⟨0, 1, ckCells (.rv .nils) (.rv .nils) p r v b [.rv .nils, .rv .nils, .rv .nilp, .rv .nils, .rv .nils]⟩]
  have start : F_ssa_Flow [.agg [p, r, v, b]] = pureR (callG G_ssa_checker_shape h8 [.ptr 2 0 0] (fun r9 h11 => callG G_ssa_checker_flow h11 [.ptr 2 0 0] (fun r13 h15 => stv 1 h15 (.ptr 1 0 0) (.rv (.int .i64 0)) fun h17 => fdk D_ssa_caught none [.ptr 1 0 0] h17 fun h18 => finR ((cellAt h18 (.ptr 1 0 0) 0)) h18)
      (fun q14 h16 => fdk D_ssa_caught (some q14) [.ptr 1 0 0] h16 fun h19 => finR ((cellAt h19 (.ptr 1 0 0) 0)) h19)) (fun q10 h12 => fdk D_ssa_caught (some q10) [.ptr 1 0 0] h12 fun h20 => finR ((cellAt h20 (.ptr 1 0 0) 0)) h20)) := by
    unfold F_ssa_Flow
    rw [List.map_cons, List.map_nil, ssa_Flow_eq]
    rfl
  have ho0 : h8[2]? = some ⟨0, 1, ckCells (.rv .nils) (.rv .nils) p r v b [.rv .nils, .rv .nils, .rv .nilp, .rv .nils, .rv .nils]⟩ := rfl
  obtain ⟨l, hs⟩ := shape_spec (cells := ckCells (.rv .nils) (.rv .nils) p r v b [.rv .nils, .rv .nils, .rv .nilp, .rv .nils, .rv .nils]) rfl hb h8 ho0
  have thrown : ∀ (h : Hp) (e : Int), h[1]? = some ⟨0, 1, [ai 0]⟩ → pureR (fdk D_ssa_caught (some (.rv (errA e))) [.ptr 1 0 0] h fun h19 => finR ((cellAt h19 (.ptr 1 0 0) 0)) h19) = some (.ret (I e)) := by
    intro h e ho
    rw [fdk_some (caught_some ho (by simp) e)]
    simp [cellAt, finR, pureR, toRV, depthA, (List.getElem?_eq_some_iff.1 ho).1]
  rw [start]
  cases hf : formOk d.blocks with
  | false =>
    rw [hf] at hs
    refine ⟨fun _ => ?_, fun h => (by cases h), fun h => (by cases h)⟩
    rw [callG_pan hs]
    exact thrown _ 130 rfl
  | true =>
    rw [hf] at hs
    have hl : 0 < d.blocks.length := by
      simp only [formOk, Bool.and_eq_true, decide_eq_true_eq] at hf
      exact hf.1.1
    obtain ⟨P, hP⟩ := IsPost.ex (formOk_succs hf) hl
    have hfl := flow_spec (h0 := h8 ++ l) hd' rfl hf hP (get_old ho0 l)
    rw [callG_ret hs]
    refine ⟨fun h => (by cases h), fun _ q => ?_, fun _ q => ?_⟩
    · obtain ⟨h', x, e, hx, hok, hfr⟩ := hfl.1 ((flowP_iff hf hP).2 q)
      have h1 : h'[1]? = some ⟨0, 1, [ai 0]⟩ := by rw [hfr 1 (by simp [h8]) (by omega)]; rfl
      rw [callG_ret e, stv_at h1 (by simp) rfl rfl, fdk_some (caught_none [] 1 0 0 _)]
      simp [cellAt, finR, pureR, toRV, depthA, (List.getElem?_eq_some_iff.1 h1).1]
    · obtain ⟨h', e, hfr⟩ := hfl.2 (fun k => q ((flowP_iff hf hP).1 k))
      have h1 : h'[1]? = some ⟨0, 1, [ai 0]⟩ := by rw [hfr 1 (by simp [h8]) (by omega)]; rfl
      rw [callG_pan e]
      exact thrown h' 131 h1
/-! ### A sparse set -/
/-- A list of numbers with some cells behind it. -/
inductive IntsJ (h : Hp) : AV → List Int → Prop
  | nil : IntsJ h (.rv .nils) []
  | mk {o v : Nat} {xs : List Int} {junk : List AV} (ho : h[o]? = some ⟨v, 1, xs.map ai ++ junk⟩) : IntsJ h (.sl o v 0 xs.length) xs
theorem IntsJ.lna {R : Type} {h : Hp} {v : AV} {xs : List Int} (k : IntsJ h v xs) (K : Int → Option R) : lna v K = K xs.length := by
  cases k <;> rfl
theorem IntsJ.mono {h h' : Hp} {v : AV} {xs : List Int} (k : IntsJ h v xs) (hk : ∀ o, own v = some o → h'[o]? = h[o]?) : IntsJ h' v xs := by
  cases k with
  | nil => exact .nil
  | mk h1 => exact .mk (by rw [hk _ rfl]; exact h1)
theorem IntsJ.ownlt {h : Hp} {v : AV} {xs : List Int} (k : IntsJ h v xs) {o : Nat} (ho : own v = some o) : o < h.length := by
  cases k with
  | nil => cases ho
  | mk h1 => cases ho; exact get_lt h1
theorem IntsJ.cells {h : Hp} {v : AV} {xs : List Int} (k : IntsJ h v xs) : vcells v = some [v] ∧ oneA v = true := by
  cases k <;> exact ⟨rfl, rfl⟩
theorem IntsJ.at {R : Type} {h : Hp} {v : AV} {xs : List Int} (k : IntsJ h v xs) {i : Nat} (hi : i < xs.length) (K : Int → Option R) : (ixa 1 v i fun p => ldi .i64 h p K) = K xs[i] := by
  cases k with
  | nil => simp at hi
  | mk ho =>
    rw [sl_at hi, ldi_at (n := xs[i]) ho]
    rw [List.getElem?_append_left (by simpa using hi), List.getElem?_map, List.getElem?_eq_getElem hi]
    rfl
theorem IntsJ.done2 {h : Hp} {v : AV} {xs : List Int} (k : IntsJ h v xs) (hl : xs.length < 1000000000) : ∃ x, (∀ n, toRV h (n + 2) v = some x) ∧ IsInts x xs := by
  cases k with
  | nil => exact ⟨.nils, fun _ => rfl, .nil⟩
  | @mk o v xs junk ho =>
    refine ⟨.ros (ints xs) xs.length, fun n => ?_, .mk xs hl⟩
    have h1 : ((xs.map ai ++ junk).drop 0).take (xs.length * 1) = xs.map ai := by
      rw [List.drop_zero, List.take_append_of_le_length (by simp), List.take_of_length_le (by simp)]
    simp only [toRV, ho]
    rw [if_pos (by simp), h1, show xs.map ai = xs.map (fun x => AV.rv (I x)) from rfl, mapM_ints]
    rfl
theorem IntsJ.done {h : Hp} {v : AV} {xs : List Int} (k : IntsJ h v xs) (hl : xs.length < 1000000000) : ∃ x, toRV h depthA v = some x ∧ IsInts x xs := by
  obtain ⟨x, hx, hi⟩ := k.done2 hl
  exact ⟨x, hx 10, hi⟩
theorem IntsJ.push {h : Hp} {v : AV} {xs : List Int} (k : IntsJ h v xs) (hl : xs.length < 1000000000) (x : Int) : ∃ w h3, (∀ {R : Type} (K : AV → Hp → Option R),
    (bsl 1 1 [.rv (.int .i64 0)] [(some (0, 1), .rv (.int .i64 x))] h fun u h2 => apn 1 8 h2 v u fun w h3 => K w h3) = K w h3) ∧ IntsJ h3 w (xs ++ [x]) ∧ h.length < h3.length ∧ (∀ o, o < h.length → own v ≠ some o → h3[o]? = h[o]?) ∧ (own w = own v ∨ ∃ o, own w = some o ∧ h.length < o) := by
  cases k with
  | nil =>
    refine ⟨_, _, fun K => by rw [bsl_one rfl, apn_nil rfl], ?_, by simp, fun o ho _ => ?_, .inr ⟨_, rfl, by omega⟩⟩
    · have := IntsJ.mk (h := h ++ [⟨0, 1, [ai x]⟩] ++ [⟨0, 1, [ai x]⟩]) (o := h.length + 1) (v := 0) (xs := [x]) (junk := []) (by
        have := get_new (h := h ++ [(⟨0, 1, [ai x]⟩ : Ob)]) ⟨0, 1, [ai x]⟩
        rw [List.length_append] at this
        exact this)
      exact this
    · rw [List.append_assoc, List.getElem?_append_left ho]
  | @mk o v xs junk ho =>
    have hlt := get_lt ho
    have ho1 := get_old ho [⟨0, 1, [ai x]⟩]
    refine ⟨.sl o (v + 1) 0 (xs.length + 1), (h ++ [(⟨0, 1, [ai x]⟩ : Ob)]).set o ⟨v + 1, 1, xs.map ai ++ [ai x]⟩, fun K => ?_, ?_, by simp, fun o' ho' hne => ?_, .inl rfl⟩
    · have h2 : ((xs.length + 1 : Nat) : Int) ≤ room := by simp [room]; omega
      have h3 : ((8 : Nat) : Int) * ((xs.length + 1 : Nat) : Int) ≤ room := by simp [room]; omega
      have h4 : wcells 1 (h ++ [(⟨0, 1, [ai x]⟩ : Ob)]) (.sl h.length 0 0 1) = some (1, [ai x]) := by
        simp only [wcells, get_new]
        rw [if_pos (by simp)]
        rfl
      have h5 : (xs.map ai ++ junk).take (xs.length * 1) = xs.map ai := by
        rw [List.take_append_of_le_length (by simp), List.take_of_length_le (by simp)]
      rw [bsl_one rfl]
      simp only [apn, h4, ho1]
      rw [if_pos ⟨trivial, trivial, trivial, by simp, h2, h3, by simp [oneA]⟩, h5]
    · have := IntsJ.mk (h := (h ++ [(⟨0, 1, [ai x]⟩ : Ob)]).set o ⟨v + 1, 1, xs.map ai ++ [ai x]⟩) (o := o) (v := v + 1) (xs := xs ++ [x]) (junk := []) (by
        rw [List.map_append, List.append_nil]; exact get_set_eq ho1)
      rw [List.length_append] at this
      exact this
    · have h2 : o ≠ o' := fun e => hne (e ▸ rfl)
      rw [List.getElem?_set_ne h2, List.getElem?_append_left ho']
structure SetAt (h : Hp) (os oat n : Nat) (inV : AV) (A : List Int) (S : List Nat) : Prop where
  ob : h[os]? = some ⟨0, 1, [inV, .sl oat 0 0 n]⟩
  ins : IntsJ h inV (S.map Int.ofNat)
  at' : h[oat]? = some ⟨0, 1, A.map ai⟩
  len : A.length = n
  nat : ∀ a ∈ A, 0 ≤ a
  ok : ∀ x ∈ S, ∃ k : Nat, A[x]? = some (k : Int) ∧ S[k]? = some x
  nd : S.Nodup
  lt : ∀ x ∈ S, x < n
  ne : os ≠ oat
  own1 : own inV ≠ some os
  own2 : own inV ≠ some oat
theorem SetAt.mono {h h' : Hp} {os oat n : Nat} {inV : AV} {A : List Int} {S : List Nat} (k : SetAt h os oat n inV A S) (hk : ∀ o, o = os ∨ o = oat ∨ own inV = some o → h'[o]? = h[o]?) : SetAt h' os oat n inV A S :=
  ⟨by rw [hk os (.inl rfl)]; exact k.ob, k.ins.mono fun o ho => hk o (.inr (.inr ho)), by rw [hk oat (.inr (.inl rfl))]; exact k.at', k.len, k.nat, k.ok, k.nd, k.lt, k.ne, k.own1, k.own2⟩
theorem has_spec {h : Hp} {os oat n : Nat} {inV : AV} {A : List Int} {S : List Nat} (k : SetAt h os oat n inV A S) {x : Nat} (hx : x < n) : G_flow_set_has [.ptr os 0 0, ai x] h = some (.ret (ab (decide (x ∈ S))), h) := by
  obtain ⟨a, ha⟩ : ∃ a, A[x]? = some a := ⟨_, List.getElem?_eq_getElem (by rw [k.len]; exact hx)⟩
  have ha0 := k.nat a (List.mem_of_getElem? ha)
  obtain ⟨q, rfl⟩ : ∃ q : Nat, a = q := ⟨a.toNat, by omega⟩
  have hax : (A.map ai)[x]? = some (.rv (.int .i64 (q : Int))) := by rw [List.getElem?_map, ha]; rfl
  unfold G_flow_set_has
  rw [flow_set_has_eq, nck_ptr, pad_ptr, ldv_at k.ob (x := .sl oat 0 0 n) rfl, sl_at hx, ldi_at k.at' hax, nck_ptr, pad_ptr, ldv_at k.ob (x := inV) rfl, k.ins.lna]
  rw [List.length_map]
  by_cases hq : q < S.length
  · rw [bsp_of (decide_eq_true (by omega)), nck_ptr, pad_ptr, ldv_at k.ob (x := inV) rfl, nck_ptr, pad_ptr, ldv_at k.ob (x := .sl oat 0 0 n) rfl, sl_at hx, ldi_at k.at' hax, k.ins.at (by simpa using hq), flow_set_has_p7_eq]
    have : (((S.map Int.ofNat)[q]'(by simpa using hq)) == (x : Int)) = decide (x ∈ S) := by
      rw [List.getElem_map, Bool.eq_iff_iff, beq_iff_eq, decide_eq_true_eq]
      constructor
      · intro e
        have : S[q] = x := by
          have : ((S[q] : Nat) : Int) = x := e
          omega
        exact this ▸ List.getElem_mem hq
      · intro hm
        obtain ⟨q', h1, h2⟩ := k.ok x hm
        rw [ha] at h1
        have : q = q' := by
          have := Option.some.inj h1
          omega
        subst this
        rw [List.getElem?_eq_getElem hq] at h2
        have := Option.some.inj h2
        rw [this]
        rfl
    rw [this]
  · have : decide (x ∈ S) = false := by
      rw [decide_eq_false_iff_not]
      intro hm
      obtain ⟨q', h1, h2⟩ := k.ok x hm
      rw [ha] at h1
      have : q = q' := by
        have := Option.some.inj h1
        omega
      subst this
      exact hq (List.getElem?_eq_some_iff.1 h2).1
    rw [bsp_not (decide_eq_false (by omega)), flow_set_has_p7_eq, this]
/-- What is kept where a set is added to. -/
def Keeps (os oat : Nat) (inV inV' : AV) (h h' : Hp) : Prop := h.length ≤ h'.length ∧ (∀ o, o < h.length → o ≠ os → o ≠ oat → own inV ≠ some o → h'[o]? = h[o]?) ∧ (own inV' = own inV ∨ ∃ o, own inV' = some o ∧ h.length < o)
theorem add_old {h : Hp} {os oat n : Nat} {inV : AV} {A : List Int} {S : List Nat} (k : SetAt h os oat n inV A S) {x : Nat} (hx : x < n) (hm : x ∈ S) : G_flow_set_add [.ptr os 0 0, ai x] h = some (.ret undefA, h) := by
  unfold G_flow_set_add
  rw [flow_set_add_eq, callG_ret (has_spec k hx), asBool_b, decide_eq_true hm, bsp_not (by rfl)]
theorem add_new {h : Hp} {os oat n : Nat} {inV : AV} {A : List Int} {S : List Nat} (k : SetAt h os oat n inV A S) (hn : n < 1000000000) {x : Nat} (hx : x < n) (hm : x ∉ S) :
    ∃ h' inV' A', G_flow_set_add [.ptr os 0 0, ai x] h = some (.ret undefA, h') ∧ SetAt h' os oat n inV' A' (S ++ [x]) ∧ Keeps os oat inV inV' h h' := by
  have hSl : S.length ≤ n := nodup_le _ _ k.nd k.lt
  have hxl : x < A.length := by rw [k.len]; exact hx
  have hob := get_set_ne (ob := ⟨0, 1, (A.map ai).set x (ai S.length)⟩) k.ne.symm k.ob
  have hat := get_set_eq (ob := ⟨0, 1, (A.map ai).set x (ai S.length)⟩) k.at'
  have hin : IntsJ (h.set oat ⟨0, 1, (A.map ai).set x (ai S.length)⟩) inV (S.map Int.ofNat) := k.ins.mono fun o ho => List.getElem?_set_ne (by rintro rfl; exact k.own2 ho)
  have hkp : ∀ o, o ≠ oat → (h.set oat ⟨0, 1, (A.map ai).set x (ai S.length)⟩)[o]? = h[o]? := fun o ho => List.getElem?_set_ne (Ne.symm ho)
  have hlen : (h.set oat ⟨0, 1, (A.map ai).set x (ai S.length)⟩).length = h.length := by simp
  have hol := get_lt k.ob
  have hal := get_lt k.at'
  unfold G_flow_set_add
  rw [flow_set_add_eq, callG_ret (has_spec k hx), asBool_b, decide_eq_false hm, bsp_of (by rfl), nck_ptr, pad_ptr, ldv_at k.ob (x := .sl oat 0 0 n) rfl, nck_ptr, pad_ptr, ldv_at k.ob (x := inV) rfl, k.ins.lna, sl_at hx, List.length_map, stv_at k.at' (by simpa using hxl) rfl rfl,
    nck_ptr, pad_ptr, ldv_at hob (x := inV) rfl]
  generalize h.set oat ⟨0, 1, (A.map ai).set x (ai S.length)⟩ = h1 at hob hat hin hkp hlen ⊢
  obtain ⟨w, h3, hK, kw, hlt, hkeep, how⟩ := hin.push (by simp; omega) (x : Int)
  have hob3 : h3[os]? = some ⟨0, 1, [inV, .sl oat 0 0 n]⟩ := by rw [hkeep os (by omega) k.own1]; exact hob
  have hat3 : h3[oat]? = some ⟨0, 1, (A.map ai).set x (ai S.length)⟩ := by rw [hkeep oat (by omega) k.own2]; exact hat
  have hwne : own w ≠ some os ∧ own w ≠ some oat := by
    rcases how with e | ⟨o, e, hlt'⟩
    · rw [e]; exact ⟨k.own1, k.own2⟩
    · rw [e]
      exact ⟨fun e => by cases e; omega, fun e => by cases e; omega⟩
  rw [hK, nck_ptr, pad_ptr, stv_at hob3 (by simp) kw.cells.2 kw.cells.1]
  refine ⟨_, w, A.set x S.length, rfl, ⟨?_, ?_, ?_, by simp [k.len], ?_, ?_, nodup_snoc k.nd hm, ?_, k.ne, hwne.1, hwne.2⟩, ?_, ?_, ?_⟩
  · exact get_set_eq hob3
  · have := kw.mono (h' := h3.set os ⟨0, 1, [inV, .sl oat 0 0 n].set 0 w⟩) fun o ho => List.getElem?_set_ne (by rintro rfl; exact hwne.1 ho)
    simpa using this
  · rw [List.map_set]; exact get_set_ne k.ne hat3
  · intro a ha
    rcases List.mem_or_eq_of_mem_set ha with h | h
    · exact k.nat a h
    · omega
  · intro y hy
    by_cases e : x = y
    · subst e
      exact ⟨S.length, by rw [List.getElem?_set_self hxl], by simp⟩
    · have hyS : y ∈ S := by
        rcases List.mem_append.1 hy with h | h
        · exact h
        · simp at h; exact absurd h.symm e
      obtain ⟨q, h1, h2⟩ := k.ok y hyS
      exact ⟨q, by rw [List.getElem?_set_ne e]; exact h1, by rw [List.getElem?_append_left (List.getElem?_eq_some_iff.1 h2).1]; exact h2⟩
  · intro y hy
    rcases List.mem_append.1 hy with h | h
    · exact k.lt y h
    · simp at h; subst h; exact hx
  · simp; omega
  · intro o ho h1 h2 h3'
    rw [List.getElem?_set_ne (Ne.symm h1), hkeep o (by omega) h3', hkp o h2]
  · rcases how with e | ⟨o, e, hlt'⟩
    · exact .inl e
    · exact .inr ⟨o, e, by omega⟩
end Go.Proofs.Ytknphnmhjmejaaa
