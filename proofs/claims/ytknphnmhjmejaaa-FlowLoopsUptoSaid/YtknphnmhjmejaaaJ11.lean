/- Joined texts: Hf, Hg, Hh, Fd, Fc, Hi, Dom, Da. No conditions but those of each. -/
import Derived.Test.YtknphnmhjmejaaaJ10
import Derived.Test.YtknphnmhjmejaaaJ8
import Derived.Test.YtknphnmhjmejaaaJ9
/-  What the program's Flow and its Post tell. No conditions. -/
namespace Go.Proofs.Ytknphnmhjmejaaa
set_option linter.unusedVariables false
theorem caught_none (xs : List AV) (o v off : Nat) (h : Hp) : D_ssa_caught none [.ptr o v off] h = some h := by
  unfold D_ssa_caught
  rw [ssa_caught_eq]
  rfl
theorem caught_some {o v es off : Nat} {cells : List AV} {h : Hp} (ho : h[o]? = some ⟨v, es, cells⟩) (hl : off < cells.length) (e : Int) : D_ssa_caught (some (.rv (errA e))) [.ptr o v off] h = some (h.set o ⟨v, es, cells.set off (ai e)⟩) := by
  have h1 : ∀ (K : Bool → Option Hp), nilEq false 4 (recV (some (.rv (errA e)))) K = K false := fun K => rfl
  have h2 : ∀ (K : AV → Option Hp), tasA 32 (some (.rv (.int .i64 0))) (recV (some (.rv (errA e)))) K = K (.tuple [.rv (I e), ab true]) := fun K => rfl
  have h3 : ∀ (K : AV → Option Hp), xtr (.tuple [.rv (I e), ab true]) 0 K = K (.rv (I e)) := fun K => rfl
  have h4 : ∀ (K : AV → Option Hp), xtr (.tuple [.rv (I e), ab true]) 1 K = K (ab true) := fun K => rfl
  unfold D_ssa_caught
  rw [ssa_caught_eq, h1, bsp_not rfl, h2, h3, asInt_i, h4, asBool_b, bsp_not (by rfl), ssa_caught_p31_eq, nck_ptr, stv_at ho hl rfl rfl]
theorem fdk_some {R : Type} {D : Dfd} {pv : Option AV} {dargs : List AV} {h h' : Hp} (e : D pv dargs h = some h') (K : Hp → Option R) : fdk D pv dargs h K = K h' := by
  simp only [fdk, e]
theorem ssaFlow_spec {cs : List RV} {d : Cd} (hd : IsCd cs d) :
    (formOk d.blocks = false → F_ssa_Flow [.agg cs] = some (.ret (I 130))) ∧ (formOk d.blocks = true → FlowOk d.blocks → F_ssa_Flow [.agg cs] = some (.ret (I 0))) ∧ (formOk d.blocks = true → ¬ FlowOk d.blocks → F_ssa_Flow [.agg cs] = some (.ret (I 131))) := by
  have hd' := hd
  obtain ⟨p, r, v, b, rfl, _, _, _, hb⟩ := hd
  let h8 : Hp := [⟨0, 1, [.rv p, .rv r, .rv v, .rv b]⟩, ⟨0, 1, [ai 0]⟩, ⟨0, 1, ckCells (.rv .nils) (.rv .nils) p r v b [.rv .nils, .rv .nils, .rv .nilp, .rv .nils, .rv .nils]⟩]
  have start : F_ssa_Flow [.agg [p, r, v, b]] = pureR (callG G_ssa_checker_shape h8 [.ptr 2 0 0] (fun r9 h11 => callG G_ssa_checker_flow h11 [.ptr 2 0 0] (fun r13 h15 => stv 1 h15 (.ptr 1 0 0) (.rv (.int .i64 0)) fun h17 => fdk D_ssa_caught none [.ptr 1 0 0] h17 fun h18 => finR ((cellAt h18 (.ptr 1 0 0) 0)) h18)
      (fun q14 h16 => fdk D_ssa_caught (some q14) [.ptr 1 0 0] h16 fun h19 => finR ((cellAt h19 (.ptr 1 0 0) 0)) h19)) (fun q10 h12 => fdk D_ssa_caught (some q10) [.ptr 1 0 0] h12 fun h20 => finR ((cellAt h20 (.ptr 1 0 0) 0)) h20)) := by
    unfold F_ssa_Flow
    rw [List.map_cons, List.map_nil, ssa_Flow_eq]
    rfl
  have ho0 : h8[2]? = some ⟨0, 1, ckCells (.rv .nils) (.rv .nils) p r v b [.rv .nils, .rv .nils, .rv .nilp, .rv .nils, .rv .nils]⟩ := rfl
  obtain ⟨l, hs⟩ := shape_spec (cells := ckCells (.rv .nils) (.rv .nils) p r v b [.rv .nils, .rv .nils, .rv .nilp, .rv .nils, .rv .nils]) rfl hb h8 ho0
  have thrown : ∀ (h : Hp) (e : Int), h[1]? = some ⟨0, 1, [ai 0]⟩ → pureR (fdk D_ssa_caught (some (.rv (errA e))) [.ptr 1 0 0] h fun h19 => finR ((cellAt h19 (.ptr 1 0 0) 0)) h19) = some (.ret (I e)) := by
    intro h e ho
    rw [fdk_some (caught_some ho (by simp) e)]
    simp [cellAt, finR, pureR, toRV, depthA, (List.getElem?_eq_some_iff.1 ho).1]
  rw [start]
  cases hf : formOk d.blocks with
  | false =>
    rw [hf] at hs
    refine ⟨fun _ => ?_, fun h => (by cases h), fun h => (by cases h)⟩
    rw [callG_pan hs]
    exact thrown _ 130 rfl
  | true =>
    rw [hf] at hs
    have hl : 0 < d.blocks.length := by
      simp only [formOk, Bool.and_eq_true, decide_eq_true_eq] at hf
      exact hf.1.1
    obtain ⟨P, hP⟩ := IsPost.ex (formOk_succs hf) hl
    have hfl := flow_spec (h0 := h8 ++ l) hd' rfl hf hP (get_old ho0 l)
    rw [callG_ret hs]
    refine ⟨fun h => (by cases h), fun _ q => ?_, fun _ q => ?_⟩
    · obtain ⟨h', x, e, hx, hok, hfr⟩ := hfl.1 ((flowP_iff hf hP).2 q)
      have h1 : h'[1]? = some ⟨0, 1, [ai 0]⟩ := by rw [hfr 1 (by simp [h8]) (by omega)]; rfl
      rw [callG_ret e, stv_at h1 (by simp) rfl rfl, fdk_some (caught_none [] 1 0 0 _)]
      simp [cellAt, finR, pureR, toRV, depthA, (List.getElem?_eq_some_iff.1 h1).1]
    · obtain ⟨h', e, hfr⟩ := hfl.2 (fun k => q ((flowP_iff hf hP).1 k))
      have h1 : h'[1]? = some ⟨0, 1, [ai 0]⟩ := by rw [hfr 1 (by simp [h8]) (by omega)]; rfl
      rw [callG_pan e]
      exact thrown h' 131 h1
/-! ### A sparse set -/
/-- A list of numbers with some cells behind it. -/
inductive IntsJ (h : Hp) : AV → List Int → Prop
  | nil : IntsJ h (.rv .nils) []
  | mk {o v : Nat} {xs : List Int} {junk : List AV} (ho : h[o]? = some ⟨v, 1, xs.map ai ++ junk⟩) : IntsJ h (.sl o v 0 xs.length) xs
theorem IntsJ.lna {R : Type} {h : Hp} {v : AV} {xs : List Int} (k : IntsJ h v xs) (K : Int → Option R) : lna v K = K xs.length := by
  cases k <;> rfl
theorem IntsJ.mono {h h' : Hp} {v : AV} {xs : List Int} (k : IntsJ h v xs) (hk : ∀ o, own v = some o → h'[o]? = h[o]?) : IntsJ h' v xs := by
  cases k with
  | nil => exact .nil
  | mk h1 => exact .mk (by rw [hk _ rfl]; exact h1)
theorem IntsJ.ownlt {h : Hp} {v : AV} {xs : List Int} (k : IntsJ h v xs) {o : Nat} (ho : own v = some o) : o < h.length := by
  cases k with
  | nil => cases ho
  | mk h1 => cases ho; exact get_lt h1
theorem IntsJ.cells {h : Hp} {v : AV} {xs : List Int} (k : IntsJ h v xs) : vcells v = some [v] ∧ oneA v = true := by
  cases k <;> exact ⟨rfl, rfl⟩
theorem IntsJ.at {R : Type} {h : Hp} {v : AV} {xs : List Int} (k : IntsJ h v xs) {i : Nat} (hi : i < xs.length) (K : Int → Option R) : (ixa 1 v i fun p => ldi .i64 h p K) = K xs[i] := by
  cases k with
  | nil => simp at hi
  | mk ho =>
    rw [sl_at hi, ldi_at (n := xs[i]) ho]
    rw [List.getElem?_append_left (by simpa using hi), List.getElem?_map, List.getElem?_eq_getElem hi]
    rfl
theorem IntsJ.done2 {h : Hp} {v : AV} {xs : List Int} (k : IntsJ h v xs) (hl : xs.length < 1000000000) : ∃ x, (∀ n, toRV h (n + 2) v = some x) ∧ IsInts x xs := by
  cases k with
  | nil => exact ⟨.nils, fun _ => rfl, .nil⟩
  | @mk o v xs junk ho =>
    refine ⟨.ros (ints xs) xs.length, fun n => ?_, .mk xs hl⟩
    have h1 : ((xs.map ai ++ junk).drop 0).take (xs.length * 1) = xs.map ai := by
      rw [List.drop_zero, List.take_append_of_le_length (by simp), List.take_of_length_le (by simp)]
    simp only [toRV, ho]
    rw [if_pos (by simp), h1, show xs.map ai = xs.map (fun x => AV.rv (I x)) from rfl, mapM_ints]
    rfl
theorem IntsJ.done {h : Hp} {v : AV} {xs : List Int} (k : IntsJ h v xs) (hl : xs.length < 1000000000) : ∃ x, toRV h depthA v = some x ∧ IsInts x xs := by
  obtain ⟨x, hx, hi⟩ := k.done2 hl
  exact ⟨x, hx 10, hi⟩
theorem IntsJ.push {h : Hp} {v : AV} {xs : List Int} (k : IntsJ h v xs) (hl : xs.length < 1000000000) (x : Int) : ∃ w h3, (∀ {R : Type} (K : AV → Hp → Option R),
    (bsl 1 1 [.rv (.int .i64 0)] [(some (0, 1), .rv (.int .i64 x))] h fun u h2 => apn 1 8 h2 v u fun w h3 => K w h3) = K w h3) ∧ IntsJ h3 w (xs ++ [x]) ∧ h.length < h3.length ∧ (∀ o, o < h.length → own v ≠ some o → h3[o]? = h[o]?) ∧ (own w = own v ∨ ∃ o, own w = some o ∧ h.length < o) := by
  cases k with
  | nil =>
    refine ⟨_, _, fun K => by rw [bsl_one rfl, apn_nil rfl], ?_, by simp, fun o ho _ => ?_, .inr ⟨_, rfl, by omega⟩⟩
    · have := IntsJ.mk (h := h ++ [⟨0, 1, [ai x]⟩] ++ [⟨0, 1, [ai x]⟩]) (o := h.length + 1) (v := 0) (xs := [x]) (junk := []) (by
        have := get_new (h := h ++ [(⟨0, 1, [ai x]⟩ : Ob)]) ⟨0, 1, [ai x]⟩
        rw [List.length_append] at this
        exact this)
      exact this
    · rw [List.append_assoc, List.getElem?_append_left ho]
  | @mk o v xs junk ho =>
    have hlt := get_lt ho
    have ho1 := get_old ho [⟨0, 1, [ai x]⟩]
    refine ⟨.sl o (v + 1) 0 (xs.length + 1), (h ++ [(⟨0, 1, [ai x]⟩ : Ob)]).set o ⟨v + 1, 1, xs.map ai ++ [ai x]⟩, fun K => ?_, ?_, by simp, fun o' ho' hne => ?_, .inl rfl⟩
    · have h2 : ((xs.length + 1 : Nat) : Int) ≤ room := by simp [room]; omega
      have h3 : ((8 : Nat) : Int) * ((xs.length + 1 : Nat) : Int) ≤ room := by simp [room]; omega
      have h4 : wcells 1 (h ++ [(⟨0, 1, [ai x]⟩ : Ob)]) (.sl h.length 0 0 1) = some (1, [ai x]) := by
        simp only [wcells, get_new]
        rw [if_pos (by simp)]
        rfl
      have h5 : (xs.map ai ++ junk).take (xs.length * 1) = xs.map ai := by
        rw [List.take_append_of_le_length (by simp), List.take_of_length_le (by simp)]
      rw [bsl_one rfl]
      simp only [apn, h4, ho1]
      rw [if_pos ⟨trivial, trivial, trivial, by simp, h2, h3, by simp [oneA]⟩, h5]
    · have := IntsJ.mk (h := (h ++ [(⟨0, 1, [ai x]⟩ : Ob)]).set o ⟨v + 1, 1, xs.map ai ++ [ai x]⟩) (o := o) (v := v + 1) (xs := xs ++ [x]) (junk := []) (by
        rw [List.map_append, List.append_nil]; exact get_set_eq ho1)
      rw [List.length_append] at this
      exact this
    · have h2 : o ≠ o' := fun e => hne (e ▸ rfl)
      rw [List.getElem?_set_ne h2, List.getElem?_append_left ho']
structure SetAt (h : Hp) (os oat n : Nat) (inV : AV) (A : List Int) (S : List Nat) : Prop where
  ob : h[os]? = some ⟨0, 1, [inV, .sl oat 0 0 n]⟩
  ins : IntsJ h inV (S.map Int.ofNat)
  at' : h[oat]? = some ⟨0, 1, A.map ai⟩
  len : A.length = n
  nat : ∀ a ∈ A, 0 ≤ a
  ok : ∀ x ∈ S, ∃ k : Nat, A[x]? = some (k : Int) ∧ S[k]? = some x
  nd : S.Nodup
  lt : ∀ x ∈ S, x < n
  ne : os ≠ oat
  own1 : own inV ≠ some os
  own2 : own inV ≠ some oat
theorem SetAt.mono {h h' : Hp} {os oat n : Nat} {inV : AV} {A : List Int} {S : List Nat} (k : SetAt h os oat n inV A S) (hk : ∀ o, o = os ∨ o = oat ∨ own inV = some o → h'[o]? = h[o]?) : SetAt h' os oat n inV A S :=
  ⟨by rw [hk os (.inl rfl)]; exact k.ob, k.ins.mono fun o ho => hk o (.inr (.inr ho)), by rw [hk oat (.inr (.inl rfl))]; exact k.at', k.len, k.nat, k.ok, k.nd, k.lt, k.ne, k.own1, k.own2⟩
theorem has_spec {h : Hp} {os oat n : Nat} {inV : AV} {A : List Int} {S : List Nat} (k : SetAt h os oat n inV A S) {x : Nat} (hx : x < n) : G_flow_set_has [.ptr os 0 0, ai x] h = some (.ret (ab (decide (x ∈ S))), h) := by
  obtain ⟨a, ha⟩ : ∃ a, A[x]? = some a := ⟨_, List.getElem?_eq_getElem (by rw [k.len]; exact hx)⟩
  have ha0 := k.nat a (List.mem_of_getElem? ha)
  obtain ⟨q, rfl⟩ : ∃ q : Nat, a = q := ⟨a.toNat, by omega⟩
  have hax : (A.map ai)[x]? = some (.rv (.int .i64 (q : Int))) := by rw [List.getElem?_map, ha]; rfl
  unfold G_flow_set_has
  rw [flow_set_has_eq, nck_ptr, pad_ptr, ldv_at k.ob (x := .sl oat 0 0 n) rfl, sl_at hx, ldi_at k.at' hax, nck_ptr, pad_ptr, ldv_at k.ob (x := inV) rfl, k.ins.lna]
  rw [List.length_map]
  by_cases hq : q < S.length
  · rw [bsp_of (decide_eq_true (by omega)), nck_ptr, pad_ptr, ldv_at k.ob (x := inV) rfl, nck_ptr, pad_ptr, ldv_at k.ob (x := .sl oat 0 0 n) rfl, sl_at hx, ldi_at k.at' hax, k.ins.at (by simpa using hq), flow_set_has_p7_eq]
    have : (((S.map Int.ofNat)[q]'(by simpa using hq)) == (x : Int)) = decide (x ∈ S) := by
      rw [List.getElem_map, Bool.eq_iff_iff, beq_iff_eq, decide_eq_true_eq]
      constructor
      · intro e
        have : S[q] = x := by
          have : ((S[q] : Nat) : Int) = x := e
          omega
        exact this ▸ List.getElem_mem hq
      · intro hm
        obtain ⟨q', h1, h2⟩ := k.ok x hm
        rw [ha] at h1
        have : q = q' := by
          have := Option.some.inj h1
          omega
        subst this
        rw [List.getElem?_eq_getElem hq] at h2
        have := Option.some.inj h2
        rw [this]
        rfl
    rw [this]
  · have : decide (x ∈ S) = false := by
      rw [decide_eq_false_iff_not]
      intro hm
      obtain ⟨q', h1, h2⟩ := k.ok x hm
      rw [ha] at h1
      have : q = q' := by
        have := Option.some.inj h1
        omega
      subst this
      exact hq (List.getElem?_eq_some_iff.1 h2).1
    rw [bsp_not (decide_eq_false (by omega)), flow_set_has_p7_eq, this]
/-- What is kept where a set is added to. -/
def Keeps (os oat : Nat) (inV inV' : AV) (h h' : Hp) : Prop := h.length ≤ h'.length ∧ (∀ o, o < h.length → o ≠ os → o ≠ oat → own inV ≠ some o → h'[o]? = h[o]?) ∧ (own inV' = own inV ∨ ∃ o, own inV' = some o ∧ h.length < o)
theorem add_old {h : Hp} {os oat n : Nat} {inV : AV} {A : List Int} {S : List Nat} (k : SetAt h os oat n inV A S) {x : Nat} (hx : x < n) (hm : x ∈ S) : G_flow_set_add [.ptr os 0 0, ai x] h = some (.ret undefA, h) := by
  unfold G_flow_set_add
  rw [flow_set_add_eq, callG_ret (has_spec k hx), asBool_b, decide_eq_true hm, bsp_not (by rfl)]
theorem add_new {h : Hp} {os oat n : Nat} {inV : AV} {A : List Int} {S : List Nat} (k : SetAt h os oat n inV A S) (hn : n < 1000000000) {x : Nat} (hx : x < n) (hm : x ∉ S) :
    ∃ h' inV' A', G_flow_set_add [.ptr os 0 0, ai x] h = some (.ret undefA, h') ∧ SetAt h' os oat n inV' A' (S ++ [x]) ∧ Keeps os oat inV inV' h h' := by
  have hSl : S.length ≤ n := nodup_le _ _ k.nd k.lt
  have hxl : x < A.length := by rw [k.len]; exact hx
  have hob := get_set_ne (ob := ⟨0, 1, (A.map ai).set x (ai S.length)⟩) k.ne.symm k.ob
  have hat := get_set_eq (ob := ⟨0, 1, (A.map ai).set x (ai S.length)⟩) k.at'
  have hin : IntsJ (h.set oat ⟨0, 1, (A.map ai).set x (ai S.length)⟩) inV (S.map Int.ofNat) := k.ins.mono fun o ho => List.getElem?_set_ne (by rintro rfl; exact k.own2 ho)
  have hkp : ∀ o, o ≠ oat → (h.set oat ⟨0, 1, (A.map ai).set x (ai S.length)⟩)[o]? = h[o]? := fun o ho => List.getElem?_set_ne (Ne.symm ho)
  have hlen : (h.set oat ⟨0, 1, (A.map ai).set x (ai S.length)⟩).length = h.length := by simp
  have hol := get_lt k.ob
  have hal := get_lt k.at'
  unfold G_flow_set_add
  rw [flow_set_add_eq, callG_ret (has_spec k hx), asBool_b, decide_eq_false hm, bsp_of (by rfl), nck_ptr, pad_ptr, ldv_at k.ob (x := .sl oat 0 0 n) rfl, nck_ptr, pad_ptr, ldv_at k.ob (x := inV) rfl, k.ins.lna, sl_at hx, List.length_map, stv_at k.at' (by simpa using hxl) rfl rfl,
    nck_ptr, pad_ptr, ldv_at hob (x := inV) rfl]
  generalize h.set oat ⟨0, 1, (A.map ai).set x (ai S.length)⟩ = h1 at hob hat hin hkp hlen ⊢
  obtain ⟨w, h3, hK, kw, hlt, hkeep, how⟩ := hin.push (by simp; omega) (x : Int)
  have hob3 : h3[os]? = some ⟨0, 1, [inV, .sl oat 0 0 n]⟩ := by rw [hkeep os (by omega) k.own1]; exact hob
  have hat3 : h3[oat]? = some ⟨0, 1, (A.map ai).set x (ai S.length)⟩ := by rw [hkeep oat (by omega) k.own2]; exact hat
  have hwne : own w ≠ some os ∧ own w ≠ some oat := by
    rcases how with e | ⟨o, e, hlt'⟩
    · rw [e]; exact ⟨k.own1, k.own2⟩
    · rw [e]
      exact ⟨fun e => by cases e; omega, fun e => by cases e; omega⟩
  rw [hK, nck_ptr, pad_ptr, stv_at hob3 (by simp) kw.cells.2 kw.cells.1]
  refine ⟨_, w, A.set x S.length, rfl, ⟨?_, ?_, ?_, by simp [k.len], ?_, ?_, nodup_snoc k.nd hm, ?_, k.ne, hwne.1, hwne.2⟩, ?_, ?_, ?_⟩
  · exact get_set_eq hob3
  · have := kw.mono (h' := h3.set os ⟨0, 1, [inV, .sl oat 0 0 n].set 0 w⟩) fun o ho => List.getElem?_set_ne (by rintro rfl; exact hwne.1 ho)
    simpa using this
  · rw [List.map_set]; exact get_set_ne k.ne hat3
  · intro a ha
    rcases List.mem_or_eq_of_mem_set ha with h | h
    · exact k.nat a h
    · omega
  · intro y hy
    by_cases e : x = y
    · subst e
      exact ⟨S.length, by rw [List.getElem?_set_self hxl], by simp⟩
    · have hyS : y ∈ S := by
        rcases List.mem_append.1 hy with h | h
        · exact h
        · simp at h; exact absurd h.symm e
      obtain ⟨q, h1, h2⟩ := k.ok y hyS
      exact ⟨q, by rw [List.getElem?_set_ne e]; exact h1, by rw [List.getElem?_append_left (List.getElem?_eq_some_iff.1 h2).1]; exact h2⟩
  · intro y hy
    rcases List.mem_append.1 hy with h | h
    · exact k.lt y h
    · simp at h; subst h; exact hx
  · simp; omega
  · intro o ho h1 h2 h3'
    rw [List.getElem?_set_ne (Ne.symm h1), hkeep o (by omega) h3', hkp o h2]
  · rcases how with e | ⟨o, e, hlt'⟩
    · exact .inl e
    · exact .inr ⟨o, e, by omega⟩
end Go.Proofs.Ytknphnmhjmejaaa
/-  What the program's postorder tells. No conditions. -/
namespace Go.Proofs.Ytknphnmhjmejaaa
set_option linter.unusedVariables false
abbrev walkV : AV := .func id_flow_Post_c1 [] [.ptr 3 0 0, .ptr 0 0 0, .ptr 5 0 0, .ptr 4 0 0]
structure PS (h : Hp) (cells : List AV) (n : Nat) (inV : AV) (A : List Int) (postV : AV) (S P : List Nat) : Prop where
  c : h[0]? = some ⟨0, 1, cells⟩
  set : SetAt h 2 1 n inV A S
  sv : h[3]? = some ⟨0, 1, [.ptr 2 0 0]⟩
  pv : h[4]? = some ⟨0, 1, [postV]⟩
  wv : h[5]? = some ⟨0, 1, [walkV]⟩
  post : IntsJ h postV (P.map Int.ofNat)
  own1 : ∀ o, own inV = some o → 6 ≤ o
  own2 : ∀ o, own postV = some o → 6 ≤ o ∧ own inV ≠ some o
  pl : P.length ≤ S.length
theorem PS.added {h h' : Hp} {cells : List AV} {n : Nat} {inV inV' : AV} {A A' : List Int} {postV : AV} {S P : List Nat} {b : Nat} (k : PS h cells n inV A postV S P) (s : SetAt h' 2 1 n inV' A' (S ++ [b])) (kp : Keeps 2 1 inV inV' h h') : PS h' cells n inV' A' postV (S ++ [b]) P := by
  obtain ⟨hle, hk, how⟩ := kp
  have l0 := get_lt k.c
  have l5 := get_lt k.wv
  have keep : ∀ o, o < 6 → o ≠ 2 → o ≠ 1 → h'[o]? = h[o]? := fun o ho h1 h2 => hk o (by omega) h1 h2 (fun e => by have := k.own1 o e; omega)
  refine ⟨by rw [keep 0 (by omega) (by omega) (by omega)]; exact k.c, s, by rw [keep 3 (by omega) (by omega) (by omega)]; exact k.sv, by rw [keep 4 (by omega) (by omega) (by omega)]; exact k.pv,
    by rw [keep 5 (by omega) (by omega) (by omega)]; exact k.wv, ?_, ?_, ?_, by have := k.pl; simp; omega⟩
  · refine k.post.mono fun o ho => ?_
    obtain ⟨h6, hne⟩ := k.own2 o ho
    exact hk o (k.post.ownlt ho) (by omega) (by omega) hne
  · intro o ho
    rcases how with e | ⟨o', e, hlt⟩
    · rw [e] at ho; exact k.own1 o ho
    · rw [ho] at e; cases e; omega
  · intro o ho
    obtain ⟨h6, hne⟩ := k.own2 o ho
    refine ⟨h6, fun e2 => ?_⟩
    rcases how with e | ⟨o', e, hlt⟩
    · rw [e] at e2; exact hne e2
    · rw [e2] at e; cases e
      have := k.post.ownlt ho
      omega
section
variable {p r v b : RV} {d : Cd}
theorem walk_end {cells : List AV} {n : Nat} {inV : AV} {A : List Int} {postV : AV} {S P : List Nat} {h : Hp} (k : PS h cells n inV A postV S P) (hn : n < 1000000000) (F : List AV → Hp → Option (ARes × Hp)) (kk x : Nat) (hlt : P.length < S.length) :
    ∃ h' inV' A' postV', flow_Post_c1_p7 F kk x (.ptr 4 0 0) h = some (.ret undefA, h') ∧ PS h' cells n inV' A' postV' S (P ++ [x]) := by
  have hSl : S.length ≤ n := nodup_le _ _ k.set.nd k.set.lt
  obtain ⟨w, h3, hK, kw, hl, hkeep, how⟩ := k.post.push (by simp; omega) (x : Int)
  have l5 := get_lt k.wv
  have keep : ∀ o, o < 6 → h3[o]? = h[o]? := fun o ho => hkeep o (by omega) (fun e => by have := (k.own2 o e).1; omega)
  have h4 : h3[4]? = some ⟨0, 1, [postV]⟩ := by rw [keep 4 (by omega)]; exact k.pv
  have ow : ∀ o, own w = some o → 6 ≤ o ∧ own inV ≠ some o := by
    intro o ho
    rcases how with e | ⟨o', e, hlt'⟩
    · rw [e] at ho; exact k.own2 o ho
    · rw [ho] at e; cases e
      exact ⟨by omega, fun e => by have := k.set.ins.ownlt e; omega⟩
  have keep2 : ∀ o, o < 6 → o ≠ 4 → (h3.set 4 ⟨0, 1, [postV].set 0 w⟩)[o]? = h[o]? := fun o ho hne => by rw [List.getElem?_set_ne (Ne.symm hne)]; exact keep o ho
  rw [flow_Post_c1_p7_eq, ldv_at k.pv (x := postV) rfl, hK, stv_at h4 (by simp) kw.cells.2 kw.cells.1]
  refine ⟨_, inV, A, w, rfl, ⟨by rw [keep2 0 (by omega) (by omega)]; exact k.c, ?_, by rw [keep2 3 (by omega) (by omega)]; exact k.sv, ?_, by rw [keep2 5 (by omega) (by omega)]; exact k.wv, ?_, k.own1, ow, by simp; omega⟩⟩
  · refine k.set.mono fun o ho => ?_
    rcases ho with rfl | rfl | ho
    · exact keep2 2 (by omega) (by omega)
    · exact keep2 1 (by omega) (by omega)
    · have h6 := k.own1 o ho
      rw [List.getElem?_set_ne (by omega)]
      exact hkeep o (k.set.ins.ownlt ho) fun e => (k.own2 o e).2 ho
  · exact get_set_eq h4
  · have := kw.mono (h' := h3.set 4 ⟨0, 1, [postV].set 0 w⟩) fun o ho => List.getElem?_set_ne (by have := (ow o ho).1; omega)
    simpa using this
theorem walk_loop (hd : IsCd [p, r, v, b] d) (hsh : d.blocks.length ≤ 4096) (hok : okSuccs d.blocks) (F : List AV → Hp → Option (ARes × Hp)) (n : Nat)
    (rec : ∀ (x : Nat) (S P S1 P1 : List Nat) (inV : AV) (A : List Int) (postV : AV) (h : Hp), d.blocks.length - S.length ≤ n → x < d.blocks.length → x ∉ S → Dfs (sucs d.blocks) (sucs d.blocks x) (S ++ [x]) P S1 P1 → PS h [.rv p, .rv r, .rv v, .rv b] d.blocks.length inV A postV S P →
      ∃ h' inV' A' postV', F [ai x, .ptr 3 0 0, .ptr 0 0 0, .ptr 5 0 0, .ptr 4 0 0] h = some (.ret undefA, h') ∧ PS h' [.rv p, .rv r, .rv v, .rv b] d.blocks.length inV' A' postV' S1 (P1 ++ [x]))
    (k M x : Nat) {sv : RV} (hx : x < d.blocks.length) (hsv : IsInts sv d.blocks[x].succs) (S1 P1 : List Nat) : ∀ (m j N : Nat) (S P : List Nat) (inV : AV) (A : List Int) (postV : AV) (h : Hp), j + m = d.blocks[x].succs.length → m < N → d.blocks.length - S.length ≤ n → P.length < S.length → Dfs (sucs d.blocks) ((sucs d.blocks x).drop j) S P S1 P1 →
      PS h [.rv p, .rv r, .rv v, .rv b] d.blocks.length inV A postV S P → ∃ h' inV' A' postV', flow_Post_c1_l52 F k N M x (.ptr 3 0 0) (.ptr 5 0 0) (.ptr 4 0 0) (.rv sv) d.blocks[x].succs.length j h = some (.ret undefA, h') ∧ PS h' [.rv p, .rv r, .rv v, .rv b] d.blocks.length inV' A' postV' S1 (P1 ++ [x]) := by
  have hs := hsv.short
  intro m
  induction m with
  | zero =>
    intro j N S P inV A postV h hj hN hn hlt hdf hps
    obtain ⟨N, rfl⟩ : ∃ q, N = q + 1 := ⟨N - 1, by omega⟩
    rw [List.drop_eq_nil_of_le (by rw [sucs_at hx, List.length_map]; omega)] at hdf
    obtain ⟨rfl, rfl⟩ := hdf.nil_inv
    rw [flow_Post_c1_l52_eq, bsp_not (decide_eq_false (by omega))]
    exact walk_end hps (by omega) F k x hlt
  | succ m ih =>
    intro j N S P inV A postV h hj hN hn hlt hdf hps
    obtain ⟨N, rfl⟩ : ∃ q, N = q + 1 := ⟨N - 1, by omega⟩
    have hjl : j < d.blocks[x].succs.length := by omega
    obtain ⟨y, hy, hyl⟩ := hok x d.blocks[x] (List.getElem?_eq_getElem hx) d.blocks[x].succs[j] (List.getElem_mem hjl)
    have hsl : j < (sucs d.blocks x).length := by rw [sucs_at hx, List.length_map]; exact hjl
    have hsy : (sucs d.blocks x)[j] = y := by
      have : (sucs d.blocks x)[j]? = some y := by rw [sucs_at hx, List.getElem?_map, List.getElem?_eq_getElem hjl, hy]; rfl
      rw [List.getElem?_eq_getElem hsl] at this
      exact Option.some.inj this
    rw [List.drop_eq_getElem_cons hsl, hsy] at hdf
    rw [flow_Post_c1_l52_eq, bsp_of (decide_eq_true (by omega)), hsv.at hjl, hy, ldv_at hps.sv (x := .ptr 2 0 0) rfl, callG_ret (has_spec hps.set hyl), asBool_b]
    cases hdf with
    | seen hm r =>
      rw [decide_eq_true hm, bsp_not (by rfl), flow_Post_c1_p423_eq, wri_succ (by omega)]
      exact ih (j + 1) N S P inV A postV h (by omega) (by omega) hn hlt r hps
    | @go _ _ _ _ S2 P2 _ _ hm r1 r2 =>
      obtain ⟨h', inV', A', postV', e, hps'⟩ := rec y S P S2 P2 inV A postV h hn hyl hm r1 hps
      rw [decide_eq_false hm, bsp_of (by rfl), ldv_at hps.wv (x := walkV) rfl, callV_gen (Γ := flow_Post_c1_G F) (f := id_flow_Post_c1) (G := F) rfl e, flow_Post_c1_p423_eq, wri_succ (by omega)]
      obtain ⟨NN, Q, kf⟩ := r1.found
      have h1 : S2.length = S.length + 1 + NN.length := by rw [kf.s]; simp; omega
      have h2 : P2.length = P.length + Q.length := by rw [kf.p]; simp
      have h3 := kf.len
      exact ih (j + 1) N S2 (P2 ++ [y]) inV' A' postV' h' (by omega) (by omega) (by omega) (by simp; omega) r2 hps'
theorem walk_spec (hd : IsCd [p, r, v, b] d) (hsh : d.blocks.length ≤ 4096) (hok : okSuccs d.blocks) : ∀ (n x : Nat) (S P S1 P1 : List Nat) (inV : AV) (A : List Int) (postV : AV) (h : Hp), d.blocks.length - S.length ≤ n → x < d.blocks.length → x ∉ S → Dfs (sucs d.blocks) (sucs d.blocks x) (S ++ [x]) P S1 P1 →
    PS h [.rv p, .rv r, .rv v, .rv b] d.blocks.length inV A postV S P → ∃ h' inV' A' postV', GR_flow_Post_c1 n [ai x, .ptr 3 0 0, .ptr 0 0 0, .ptr 5 0 0, .ptr 4 0 0] h = some (.ret undefA, h') ∧ PS h' [.rv p, .rv r, .rv v, .rv b] d.blocks.length inV' A' postV' S1 (P1 ++ [x]) := by
  have hd' := hd
  obtain ⟨p, r, v, b, e, _, _, _, hb⟩ := hd
  cases e
  intro n
  induction n with
  | zero =>
    intro x S P S1 P1 inV A postV h hn hx hxS hdf hps
    have := nodup_le d.blocks.length (S ++ [x]) (nodup_snoc hps.set.nd hxS) (fun y hy => by
      rcases List.mem_append.1 hy with h | h
      · exact hps.set.lt y h
      · simp at h; subst h; exact hx)
    simp at this
    omega
  | succ n ih =>
    intro x S P S1 P1 inV A postV h hn hx hxS hdf hps
    obtain ⟨h1, inV1, A1, e1, s1, k1⟩ := add_new hps.set (by omega) hx hxS
    have hps1 := hps.added s1 k1
    obtain ⟨a, q, s, t, rest, j1, j2, j3, j4, hbx⟩ := blk_at (R := ARes × Hp) hb hx
    have hs := j3.short
    have hpl := hps.pl
    have run : GR_flow_Post_c1 (n + 1) [ai x, .ptr 3 0 0, .ptr 0 0 0, .ptr 5 0 0, .ptr 4 0 0] h = flow_Post_c1_l52 (GR_flow_Post_c1 n) big big h1.length x (.ptr 3 0 0) (.ptr 5 0 0) (.ptr 4 0 0) (.rv s) d.blocks[x].succs.length ((0 : Nat) : Int) h1 := by
      rw [GR_flow_Post_c1_succ, flow_Post_c1_eq, ldv_at hps.sv (x := .ptr 2 0 0) rfl, callG_ret e1, pad_ptr, ldv_at hps1.c (x := .rv b) rfl, hbx, pad_rop4, ldv_rop, j3.len, show ((0 : Int)) = ((0 : Nat) : Int) from rfl]
    rw [run]
    exact walk_loop hd' hsh hok (GR_flow_Post_c1 n) n ih big h1.length x hx j3 S1 P1 d.blocks[x].succs.length 0 big (S ++ [x]) P inV1 A1 postV h1 (by omega) (by rw [big_val]; omega) (by simp; omega) (by simp; omega) (by simpa using hdf) hps1
theorem Post_bad {cs : List RV} {d : Cd} (hd : IsCd cs d) : (formOk d.blocks = false → F_flow_Post [.agg cs] = some (.ret (.tuple [.nils, I 130]))) ∧ (formOk d.blocks = true → ¬ FlowOk d.blocks → F_flow_Post [.agg cs] = some (.ret (.tuple [.nils, I 131]))) := by
  have hd' := hd
  obtain ⟨p, r, v, b, rfl, _, _, _, hb⟩ := hd
  have key : ∀ e : Int, e ≠ 0 → F_ssa_Flow [.agg [p, r, v, b]] = some (.ret (I e)) → F_flow_Post [.agg [p, r, v, b]] = some (.ret (.tuple [.nils, I e])) := by
    intro e he hF
    unfold F_flow_Post
    rw [List.map_cons, List.map_nil, flow_Post_eq, box_agg, List.nil_append, List.length_nil, show List.map AV.rv [p, r, v, b] = [.rv p, .rv r, .rv v, .rv b] from rfl, ldg_at (by rfl) (by rfl), callP_ret (by simp [toRV, depthA]) hF (.inr rfl), asInt_i, bsp_of (by simpa using he)]
    simp [pureR, toRV, depthA]
  exact ⟨fun h => key 130 (by omega) ((ssaFlow_spec hd').1 h), fun h q => key 131 (by omega) ((ssaFlow_spec hd').2.2 h q)⟩
theorem Post_spec {cs : List RV} {d : Cd} (hd : IsCd cs d) (hf : formOk d.blocks = true) (hq : FlowOk d.blocks) {P : List Nat} (hP : IsPost d.blocks P) : ∃ x, F_flow_Post [.agg cs] = some (.ret (.tuple [x, I 0])) ∧ IsInts x (P.map Int.ofNat) := by
  have hd' := hd
  obtain ⟨p, r, v, b, rfl, _, _, _, hb⟩ := hd
  have hok := formOk_succs hf
  have hl : 0 < d.blocks.length ∧ d.blocks.length ≤ 4096 := by
    simp only [formOk, Bool.and_eq_true, decide_eq_true_eq] at hf
    exact hf.1
  obtain ⟨S, hdf⟩ := hP
  have hdf' : ∃ P0, P = P0 ++ [0] ∧ Dfs (sucs d.blocks) (sucs d.blocks 0) ([] ++ [0]) [] S P0 := by
    cases hdf with
    | seen h => simp at h
    | go _ r1 r2 =>
      obtain ⟨rfl, rfl⟩ := r2.nil_inv
      exact ⟨_, rfl, by simpa using r1⟩
  obtain ⟨P0, hP0, hdf0⟩ := hdf'
  let h0 : Hp := [⟨0, 1, [.rv p, .rv r, .rv v, .rv b]⟩, ⟨0, 1, zrep [ai 0] d.blocks.length⟩, ⟨0, 1, [.rv .nils, .sl 1 0 0 d.blocks.length]⟩, ⟨0, 1, [.ptr 2 0 0]⟩, ⟨0, 1, [.rv .nils]⟩, ⟨0, 1, [walkV]⟩]
  have run : F_flow_Post [.agg [p, r, v, b]] = pureR (callV flow_Post_G walkV h0 [ai 0] (fun r24 h26 => ldv h26 (.ptr 4 0 0) fun v28 => some (.ret (.tuple [v28, (.rv (.int .i64 0))]), h26)) (fun q25 h27 => some (.pan q25, h27))) := by
    unfold F_flow_Post
    rw [List.map_cons, List.map_nil, flow_Post_eq, box_agg, List.nil_append, List.length_nil, show List.map AV.rv [p, r, v, b] = [.rv p, .rv r, .rv v, .rv b] from rfl, ldg_at (by rfl) (by rfl), callP_ret (by simp [toRV, depthA]) ((ssaFlow_spec hd').2.1 hf hq) (.inr rfl), asInt_i, bsp_not (by rfl),
      pad_ptr, ldv_at (by rfl) (x := .rv b) (by rfl), hb.len, mks_one (by omega) (by omega)]
    rfl
  have hz : zrep [ai 0] d.blocks.length = (List.replicate d.blocks.length (0 : Int)).map ai := by simp [zrep]
  have hps : PS h0 [.rv p, .rv r, .rv v, .rv b] d.blocks.length (.rv .nils) (List.replicate d.blocks.length 0) (.rv .nils) [] [] := by
    refine ⟨rfl, ⟨rfl, .nil, ?_, by simp, ?_, by simp, by simp, by simp, by omega, by simp [own], by simp [own]⟩, rfl, rfl, rfl, .nil, by simp [own], by simp [own], by simp⟩
    · show some _ = _
      rw [hz]
    · intro a ha
      rw [List.mem_replicate] at ha
      omega
  have hbig : d.blocks.length - ([] : List Nat).length ≤ big := by
    rw [big_val, List.length_nil]
    omega
  obtain ⟨h', inV', A', postV', e, hps'⟩ := walk_spec hd' hl.2 hok big 0 [] [] S P0 _ _ _ h0 hbig hl.1 (by simp) hdf0 hps
  rw [← hP0] at hps'
  have hnl := (IsPost.facts hok hl.1 ⟨S, hdf⟩).2.2
  obtain ⟨x, hx, hix⟩ := hps'.post.done2 (by simp; omega)
  refine ⟨x, ?_, hix⟩
  have e' : G_flow_Post_c1 ([] ++ [ai 0] ++ [.ptr 3 0 0, .ptr 0 0 0, .ptr 5 0 0, .ptr 4 0 0]) h0 = some (.ret undefA, h') := by
    rw [G_flow_Post_c1]
    exact e
  rw [run, callV_gen (Γ := flow_Post_G) (f := id_flow_Post_c1) (G := G_flow_Post_c1) rfl e', ldv_at hps'.pv (x := postV') rfl]
  have h1 := hx 9
  simp only [pureR, depthA, toRV, List.mapM_cons, List.mapM_nil, h1]
  rfl
end
end Go.Proofs.Ytknphnmhjmejaaa
/-  Whether a block is reached from another one; that the smallest program wakes. No conditions. -/
namespace Go.Proofs.Ytknphnmhjmejaaa
set_option linter.unusedVariables false
section
variable {p r v b : RV} {d : Cd} {s : Nat} {oc os ol : Nat} {k' : Nat}
def RchPost (bs : List Blk) (s to : Nat) (o : Option (ARes × Hp)) : Prop := ∃ (h' : Hp) (q : Bool), o = some (.ret (ab q), h') ∧ (q = true ↔ Rch bs (-1) s to)
theorem reaches_inner (hd : IsCd [p, r, v, b] d) (hsh : d.blocks.length < 17592186044415) (hok : okSuccs d.blocks) (to k N M M' i x : Nat) {bx : Blk} {sv : RV} (hbx : d.blocks[x]? = some bx) (hsv : IsInts sv bx.succs)
    (outer : ∀ seen list vl h, RH h oc os ol vl [.rv p, .rv r, .rv v, .rv b] seen list → BI d.blocks (-1) s seen list (i + 1) 0 → RchPost d.blocks s to (w13_reaches_l500 k N M to (.ptr oc 0 0) (.sl os 0 0 d.blocks.length) (.sl ol vl 0 list.length) ((i + 1 : Nat) : Int) h)) :
    ∀ (m j N' : Nat) (seen : List Bool) (list : List Nat) (vl : Nat) (h : Hp), j + m = bx.succs.length → m < N' → list[i]? = some x → RH h oc os ol vl [.rv p, .rv r, .rv v, .rv b] seen list → BI d.blocks (-1) s seen list i j →
      RchPost d.blocks s to (w13_reaches_l64076 k N M N' M' to (.ptr oc 0 0) (.sl os 0 0 d.blocks.length) (.sl ol vl 0 list.length) i (.rv sv) j h) := by
  intro m
  induction m with
  | zero =>
    intro j N' seen list vl h hj hN hx hh hi
    obtain ⟨N', rfl⟩ : ∃ q, N' = q + 1 := ⟨N' - 1, by omega⟩
    have hb := hi.bound
    have hil := (List.getElem?_eq_some_iff.1 hx).1
    rw [w13_reaches_l64076_eq, hsv.len, bsp_not (decide_eq_false (by omega)), w13_reaches_p2003_eq, wri_succ (by omega)]
    exact outer seen list vl h hh (hi.next hx hbx (by omega))
  | succ m ih =>
    intro j N' seen list vl h hj hN hx hh hi
    obtain ⟨N', rfl⟩ : ∃ q, N' = q + 1 := ⟨N' - 1, by omega⟩
    have hjl : j < bx.succs.length := by omega
    have hss := hsv.short
    have hbd := hi.bound
    obtain ⟨n, hn, hnl⟩ := hok x bx hbx bx.succs[j] (List.getElem_mem hjl)
    have hsj : bx.succs[j]? = some (n : Int) := by rw [List.getElem?_eq_getElem hjl, hn]
    have hsn : ∃ q, seen[n]? = some q := ⟨seen[n]'(by rw [hi.len]; exact hnl), List.getElem?_eq_getElem _⟩
    obtain ⟨q, hq⟩ := hsn
    rw [w13_reaches_l64076_eq, hsv.len, bsp_of (decide_eq_true (by omega)), hsv.at hjl, hn, sl_at hnl, ldb_at (b := q) hh.s (by simp [hq])]
    cases q with
    | true =>
      rw [bsp_not (by rfl), w13_reaches_p256307_eq, wri_succ (by omega)]
      exact ih (j + 1) N' seen list vl h (by omega) (by omega) hx hh (hi.skip hx hbx hsj (.inr hq))
    | false =>
      rw [bsp_of (by rfl), hsv.at hjl, hn, sl_at hnl, stv_at hh.s (by simp; rw [hi.len]; exact hnl) rfl rfl, hsv.at hjl, hn, bsl_one rfl]
      rw [apn_one (get_set_ne hh.sl hh.l) (by simp) (by omega) rfl, w13_reaches_p256307_eq, wri_succ (by omega)]
      have := ih (j + 1) N' (seen.set n true) (list ++ [n]) (vl + 1) _ (by omega) (by omega) (by rw [List.getElem?_append_left (List.getElem?_eq_some_iff.1 hx).1]; exact hx) (hh.push n) (hi.push hx hbx hsj (by omega) hq)
      rw [List.length_append] at this
      exact this
theorem reaches_outer (hd : IsCd [p, r, v, b] d) (hsh : d.blocks.length < 17592186044415) (hok : okSuccs d.blocks) (hk : d.blocks.length + 140737488355330 < k') (to M : Nat) (hto : to < d.blocks.length) :
    ∀ (m i N : Nat) (seen : List Bool) (list : List Nat) (vl : Nat) (h : Hp), i + m = d.blocks.length → m < N → RH h oc os ol vl [.rv p, .rv r, .rv v, .rv b] seen list → BI d.blocks (-1) s seen list i 0 →
      RchPost d.blocks s to (w13_reaches_l500 k' N M to (.ptr oc 0 0) (.sl os 0 0 d.blocks.length) (.sl ol vl 0 list.length) i h) := by
  have fin : ∀ (i N : Nat) (seen : List Bool) (list : List Nat) (vl : Nat) (h : Hp), list.length ≤ i → 0 < N → RH h oc os ol vl [.rv p, .rv r, .rv v, .rv b] seen list → BI d.blocks (-1) s seen list i 0 →
      RchPost d.blocks s to (w13_reaches_l500 k' N M to (.ptr oc 0 0) (.sl os 0 0 d.blocks.length) (.sl ol vl 0 list.length) i h) := by
    intro i N seen list vl h hi hN hh hb
    obtain ⟨N, rfl⟩ : ∃ q, N = q + 1 := ⟨N - 1, by omega⟩
    obtain ⟨q, hq⟩ : ∃ q, seen[to]? = some q := ⟨_, List.getElem?_eq_getElem (by rw [hb.len]; exact hto)⟩
    rw [w13_reaches_l500_eq, sl_len, bsp_not (decide_eq_false (by omega)), w13_reaches_p63_eq, sl_at hto, ldb_at (b := q) hh.s (by simp [hq])]
    refine ⟨h, q, rfl, ?_⟩
    rw [← hb.fin hi, hq]
    simp
  intro m
  induction m with
  | zero =>
    intro i N seen list vl h hi hN hh hb
    exact fin i N seen list vl h (by have := hb.bound; omega) hN hh hb
  | succ m ih =>
    intro i N seen list vl h hi hN hh hbi
    by_cases hl : list.length ≤ i
    · exact fin i N seen list vl h hl (by omega) hh hbi
    · obtain ⟨N, rfl⟩ : ∃ q, N = q + 1 := ⟨N - 1, by omega⟩
      have hil : i < list.length := by omega
      have hd' := hd
      obtain ⟨p, r, v, b, e, _, _, _, hb⟩ := hd
      cases e
      have hxl : list[i] < d.blocks.length := hbi.lt (List.getElem_mem hil)
      obtain ⟨a, q, t, u, rest, k1, k2, k3, k4, hx⟩ := blk_at (R := ARes × Hp) hb hxl
      rw [w13_reaches_l500_eq, sl_len, bsp_of (decide_eq_true (by omega)), pad_ptr, ldv_at hh.c rfl, sl_at hil, ldi_at (n := (list[i] : Nat)) hh.l (by simp [hil]), hx, pad_rop4, ldv_rop]
      exact reaches_inner hd' hsh hok to k' N M _ i list[i] (List.getElem?_eq_getElem hxl) k3 (fun seen' list' vl' h' hh' hb' => ih (i + 1) N seen' list' vl' h' (by omega) (by omega) hh' hb')
        d.blocks[list[i]].succs.length 0 k' seen list vl h (by omega) (by have := k3.short; omega) (List.getElem?_eq_getElem hil) hh hbi
theorem reaches_spec {cs : List RV} (hd : IsCd cs d) (hsh : d.blocks.length ≤ 4096) (hok : okSuccs d.blocks) {s to : Nat} (hs : s < d.blocks.length) (hto : to < d.blocks.length) :
    ∃ q, F_w13_reaches [.agg cs, I s, I to] = some (.ret (.bool q)) ∧ (q = true ↔ Rch d.blocks (-1) s to) := by
  have hd' := hd
  obtain ⟨p, r, v, b, rfl, _, _, _, hb⟩ := hd
  have ho : ([⟨0, 1, [.rv p, .rv r, .rv v, .rv b]⟩] : Hp)[0]? = some ⟨0, 1, [.rv p, .rv r, .rv v, .rv b]⟩ := rfl
  have hz : ∀ n : Nat, zrep [ab false] n = (List.replicate n false).map ab := by
    intro n; simp [zrep]
  obtain ⟨h1, eh1⟩ : ∃ h1 : Hp, h1 = [⟨0, 1, [.rv p, .rv r, .rv v, .rv b]⟩] ++ [⟨0, 1, zrep [ab false] d.blocks.length⟩] := ⟨_, rfl⟩
  have hc0 : h1[0]? = some ⟨0, 1, [.rv p, .rv r, .rv v, .rv b]⟩ := by rw [eh1]; rfl
  have hs0 : h1[1]? = some ⟨0, 1, (List.replicate d.blocks.length false).map ab⟩ := by rw [eh1, hz]; rfl
  have hl1 : ([⟨0, 1, [.rv p, .rv r, .rv v, .rv b]⟩] : Hp).length = 1 := rfl
  unfold F_w13_reaches
  rw [List.map_cons, List.map_cons, List.map_cons, List.map_nil, w13_reaches_eq, box_agg, List.nil_append, List.length_nil, show List.map AV.rv [p, r, v, b] = [.rv p, .rv r, .rv v, .rv b] from rfl,
    pad_ptr, ldv_at ho rfl, hb.len, mks_one (by omega) (by omega), hl1, ← eh1, sl_at hs, stv_at hs0 (by simp; exact hs) rfl rfl, bsl_one rfl, List.length_set]
  obtain ⟨h', q, e, hq⟩ := reaches_outer (s := s) (k' := big) hd' (by omega) hok (by rw [big_val]; omega) to
    (h1.set 1 ⟨0, 1, ((List.replicate d.blocks.length false).map ab).set s (ab true)⟩ ++ [(⟨0, 1, [an' s]⟩ : Ob)]).length hto d.blocks.length 0 big _ [s] 0 _ (by omega) (by rw [big_val]; omega) (RH.init hc0 hs0 (by omega) s) (BI.init hs)
  refine ⟨q, ?_, hq⟩
  rw [show (([s] : List Nat).length) = 1 from rfl] at e
  rw [show ((0 : Int)) = ((0 : Nat) : Int) from rfl, e]
  simp [pureR, toRV, depthA]
end
/-! ### The smallest program -/
def smallCd (n : Int) : Cd := ⟨[], [5], [⟨9, 12, [], 0, 0⟩, ⟨1, 5, [], n, 0⟩], [⟨3, 0, [1, 0], [], [], [0, 1]⟩]⟩
def smallRV (n : Int) : List RV := [.nils, .ros [I 5] 1, .ros [I 9, I 12, .nils, I 0, I 0, I 1, I 5, .nils, I n, I 0] 2, .ros [I 3, I 0, .ros [I 1, I 0] 2, .nils, .nils, .ros [I 0, I 1] 2] 1]
theorem Small_spec (n : Int) : F_w12_Small [I n] = some (.ret (.agg [.ros (smallRV n) 1, .nils])) := by
  unfold F_w12_Small
  rw [List.map_cons, List.map_nil, w12_Small_eq]
  rfl
theorem isInts_of (xs : List Int) (h : xs.length < 1000000000) : IsInts (.ros (ints xs) xs.length) xs := .mk xs h
theorem small_isCd (n : Int) : IsCd (smallRV n) (smallCd n) := by
  refine ⟨_, _, _, _, rfl, .nil, isInts_of [5] (by simp), ?_, ?_⟩
  · exact .mk (n := 5) (Q := IsVl) (l := (smallCd n).values) (.cons (c := [I 9, I 12, .nils, I 0, I 0]) rfl ⟨.nils, rfl, .nil⟩ (.cons (c := [I 1, I 5, .nils, I n, I 0]) rfl ⟨.nils, rfl, .nil⟩ .nil)) (by simp [smallCd])
  · exact .mk (n := 6) (Q := IsBlk) (l := (smallCd n).blocks) (.cons (c := [I 3, I 0, .ros [I 1, I 0] 2, .nils, .nils, .ros [I 0, I 1] 2]) rfl ⟨_, _, _, _, rfl, isInts_of [1, 0] (by simp), .nil, .nil, isInts_of [0, 1] (by simp)⟩ .nil) (by simp [smallCd])
theorem small_form (n : Int) : formOk (smallCd n).blocks = true := rfl
theorem small_flow (n : Int) : FlowOk (smallCd n).blocks := by
  have h0 : ∀ (i : Nat) (b : Blk), (smallCd n).blocks[i]? = some b → i = 0 ∧ b = ⟨3, 0, [1, 0], [], [], [0, 1]⟩ := by
    intro i b hb
    simp only [smallCd] at hb
    cases i with
    | zero => simp at hb; exact ⟨rfl, hb.symm⟩
    | succ i => simp at hb
  refine ⟨fun b hb => ?_, fun i b hb hk => ?_, fun i b hb hk => ?_⟩
  · obtain ⟨_, rfl⟩ := h0 0 b hb; simp
  · obtain ⟨rfl, rfl⟩ := h0 i b hb; simp [succsOf]
  · obtain ⟨rfl, rfl⟩ := h0 i b hb; exact .start
theorem small_post (n : Int) : IsPost (smallCd n).blocks [0] := ⟨[0], .go (by simp) (.nil _ _) (.nil _ _)⟩
theorem num_spec (n : Int) : F_w13_num [I n] = some (.ret (I n)) := by
  unfold F_w13_num
  rw [List.map_cons, List.map_nil, w13_num_eq]
  rfl
theorem wakes_spec : F_w13_wakes [] = some (.ret (.bool true)) := by
  obtain ⟨x, e, hx⟩ := Post_spec (small_isCd 3) (small_form 3) (small_flow 3) (small_post 3)
  have h1 : ∀ (K : AV → Option (ARes × Hp)), fldA 1 0 true (.rv (.agg [.ros (smallRV 3) 1, .nils])) K = K (.rv (.ros (smallRV 3) 1)) := fun K => rfl
  have h2 : ∀ (K : AV → Option (ARes × Hp)), ixa 4 (.rv (.ros (smallRV 3) 1)) 0 K = K (.rv (.rop (smallRV 3))) := fun K => rfl
  have h3 : ∀ (K : AV → Option (ARes × Hp)), ldg 4 [] (.rv (.rop (smallRV 3))) K = K (.agg ((smallRV 3).map .rv)) := fun K => rfl
  have h4 : ∀ (K : AV → Option (ARes × Hp)), xtr (.rv (.tuple [x, I 0])) 0 K = K (.rv x) := fun K => rfl
  have h5 : ∀ (K : AV → Option (ARes × Hp)), xtr (.rv (.tuple [x, I 0])) 1 K = K (.rv (I 0)) := fun K => rfl
  have hm : [AV.agg ((smallRV 3).map .rv)].mapM (toRV [] depthA) = some [.agg (smallRV 3)] := by
    simp [toRV, depthA, smallRV]
  have hr : toRV [(⟨0, 1, [ai 0]⟩ : Ob)] depthA (.sl 0 0 0 1) = some (.ros (ints [0]) 1) := rfl
  unfold F_w13_wakes
  rw [List.map_nil, w13_wakes_eq, callP_ret (by simp [toRV, depthA]) (Small_spec 3) (.inl rfl), h1, h2, h3, callP_ret hm e (.inl (by rfl)), h4, h5, asInt_i, callP_ret (by simp [toRV, depthA]) (num_spec 0) (.inr rfl), asInt_i, bsp_of (by rfl), bsl_one rfl]
  rw [callP_ret (rs := [x, .ros (ints [0]) 1]) (by simp [toRV, depthA, ints]) (EqNumbers_spec hx (isInts_of [0] (by simp))) (.inr rfl), asBool_b, w13_wakes_p15_eq]
  rfl
end Go.Proofs.Ytknphnmhjmejaaa
/-  What the flow's weighing tells: some number. No conditions. -/
namespace Go.Proofs.Ytknphnmhjmejaaa
set_option linter.unusedVariables false
def NumPost (o : Option (ARes × Hp)) : Prop := ∃ n h', o = some (.ret (ai n), h')
/-- A program in SSA form. -/
structure Ut where
  codes : List Cd
  bytes : Nat
def IsUt (c : List RV) (u : Ut) : Prop := ∃ p q, c = [p, q] ∧ IsRows 4 IsCd p u.codes ∧ (q = .nils ∧ u.bytes = 0 ∨ ∃ bs, q = .ros bs u.bytes)
theorem IsUt.bytes_len {R : Type} {q : RV} {n : Nat} (k : q = .nils ∧ n = 0 ∨ ∃ bs, q = .ros bs n) (K : Int → Option R) : lna (.rv q) K = K n := by
  rcases k with ⟨rfl, rfl⟩ | ⟨bs, rfl⟩ <;> rfl
theorem cd_at {R : Type} {l : RV} {ds : List Cd} (k : IsRows 4 IsCd l ds) {i : Nat} (hi : i < ds.length) : ∃ p r v b rest, IsInts p ds[i].params ∧ IsInts r ds[i].results ∧ IsRows 5 IsVl v ds[i].values ∧ IsRows 6 IsBlk b ds[i].blocks ∧
    ∀ (K : AV → Option R), ixa 4 (.rv l) i K = K (.rv (.rop (p :: r :: v :: b :: rest))) := by
  obtain ⟨c, rest, _, ⟨p, r, v, b, rfl, h1, h2, h3, h4⟩, hx⟩ := k.at hi
  exact ⟨p, r, v, b, rest, h1, h2, h3, h4, hx⟩
theorem ldg4 {R : Type} {h : Hp} {a b c d : RV} {rest : List RV} (K : AV → Option R) : ldg 4 h (.rv (.rop (a :: b :: c :: d :: rest))) K = K (.agg [.rv a, .rv b, .rv c, .rv d]) := rfl
section
variable {p r v b : RV} {d : Cd} {ou o : Nat} {uc : List AV} {P : RV} {ds : List Cd}
theorem Weight_blocks (hb : IsRows 6 IsBlk b d.blocks) (k N M M' : Nat) (x1 : Int) (i : Nat) (hi : i < 1000000000)
    (outer : ∀ n h, h[ou]? = some ⟨0, 1, uc⟩ → NumPost (w12_Weight_l116 k N M x1 (.ptr ou 0 0) n ((i + 1 : Nat) : Int) h)) :
    ∀ (m j N' : Nat) (n : Int) (h : Hp), j + m = d.blocks.length → m < N' → h[ou]? = some ⟨0, 1, uc⟩ → h[o]? = some ⟨0, 1, [.rv p, .rv r, .rv v, .rv b]⟩ →
      NumPost (w12_Weight_l59708 k N M N' M' x1 (.ptr ou 0 0) n i (.ptr o 0 0) j h) := by
  have hs := hb.short
  have out : ∀ N' n h x9, h[ou]? = some ⟨0, 1, uc⟩ → NumPost (w12_Weight_p238833 k N M N' M' x1 (.ptr ou 0 0) n i (.ptr o 0 0) x9 false h) := by
    intro N' n h x9 hu
    rw [w12_Weight_p238833_eq, bsp_not rfl, w12_Weight_p467_eq, wri_succ (by omega)]
    exact outer n h hu
  intro m
  induction m with
  | zero =>
    intro j N' n h hj hN hu ho
    obtain ⟨N', rfl⟩ : ∃ q, N' = q + 1 := ⟨N' - 1, by omega⟩
    rw [w12_Weight_l59708_eq, pad_ptr, ldv_at ho rfl, hb.len, bsp_not (decide_eq_false (by omega))]
    exact out _ _ _ _ hu
  | succ m ih =>
    intro j N' n h hj hN hu ho
    obtain ⟨N', rfl⟩ : ∃ q, N' = q + 1 := ⟨N' - 1, by omega⟩
    have hlt : j < d.blocks.length := by omega
    obtain ⟨a, q, s, t, rest, k1, k2, k3, k4, hx⟩ := blk_at (R := ARes × Hp) hb hlt
    rw [w12_Weight_l59708_eq, pad_ptr, ldv_at ho rfl, hb.len, bsp_of (decide_eq_true (by omega))]
    by_cases hn : n ≤ x1
    · rw [w12_Weight_p238833_eq, bsp_of (decide_eq_true hn), pad_ptr, ldv_at ho rfl, hx, ldg6, var_agg (n := 6) (by rfl) (by rfl) (by simp [k1.one, k2.one, k3.one, k4.one, oneI])]
      have hp := get_new (h := h) ⟨0, 1, [.rv (I d.blocks[j].kind), .rv (I d.blocks[j].n), .rv a, .rv q, .rv s, .rv t]⟩
      rw [pad_ptr, ldv_at hp rfl, k1.len, pad_ptr, ldv_at hp rfl, k2.len, pad_ptr, ldv_at hp rfl, k3.len, pad_ptr, ldv_at hp rfl, k4.len, wri_succ (by omega)]
      exact ih (j + 1) N' _ _ (by omega) (by omega) (get_old hu _) (get_old ho _)
    · rw [decide_eq_false hn]
      exact out _ _ _ _ hu
theorem Weight_values (hv : IsRows 5 IsVl v d.values) (hb : IsRows 6 IsBlk b d.blocks) (k N M M' : Nat) (hk : 1000000000 < k) (x1 : Int) (i : Nat) (hi : i < 1000000000)
    (outer : ∀ n h, h[ou]? = some ⟨0, 1, uc⟩ → NumPost (w12_Weight_l116 k N M x1 (.ptr ou 0 0) n ((i + 1 : Nat) : Int) h)) :
    ∀ (m j N' : Nat) (n : Int) (h : Hp), j + m = d.values.length → m < N' → h[ou]? = some ⟨0, 1, uc⟩ → h[o]? = some ⟨0, 1, [.rv p, .rv r, .rv v, .rv b]⟩ →
      NumPost (w12_Weight_l59700 k N M N' M' x1 (.ptr ou 0 0) n i (.ptr o 0 0) j h) := by
  have hs := hv.short
  have hs' := hb.short
  have out : ∀ N' n h x9, h[ou]? = some ⟨0, 1, uc⟩ → h[o]? = some ⟨0, 1, [.rv p, .rv r, .rv v, .rv b]⟩ → NumPost (w12_Weight_p238801 k N M N' M' x1 (.ptr ou 0 0) n i (.ptr o 0 0) x9 false h) := by
    intro N' n h x9 hu ho
    rw [w12_Weight_p238801_eq, bsp_not rfl, w12_Weight_p7463_eq]
    exact Weight_blocks hb k N M _ x1 i hi outer d.blocks.length 0 k n h (by omega) (by omega) hu ho
  intro m
  induction m with
  | zero =>
    intro j N' n h hj hN hu ho
    obtain ⟨N', rfl⟩ : ∃ q, N' = q + 1 := ⟨N' - 1, by omega⟩
    rw [w12_Weight_l59700_eq, pad_ptr, ldv_at ho rfl, hv.len, bsp_not (decide_eq_false (by omega))]
    exact out _ _ _ _ hu ho
  | succ m ih =>
    intro j N' n h hj hN hu ho
    obtain ⟨N', rfl⟩ : ∃ q, N' = q + 1 := ⟨N' - 1, by omega⟩
    have hlt : j < d.values.length := by omega
    obtain ⟨a, rest, k1, hx⟩ := vl_at (R := ARes × Hp) hv hlt
    rw [w12_Weight_l59700_eq, pad_ptr, ldv_at ho rfl, hv.len, bsp_of (decide_eq_true (by omega))]
    by_cases hn : n ≤ x1
    · rw [w12_Weight_p238801_eq, bsp_of (decide_eq_true hn), pad_ptr, ldv_at ho rfl, hx, pad_rop, List.drop, List.drop, List.drop, ldv_rop, k1.len, wri_succ (by omega)]
      exact ih (j + 1) N' _ _ (by omega) (by omega) hu ho
    · rw [decide_eq_false hn]
      exact out _ _ _ _ hu ho
end
theorem Weight_outer {P Q : RV} {ds : List Cd} {ou : Nat} (hp : IsRows 4 IsCd P ds) (k M : Nat) (hk : 1000000000 < k) (x1 : Int) : ∀ (m i N : Nat) (n : Int) (h : Hp), i + m = ds.length → m < N → h[ou]? = some ⟨0, 1, [.rv P, .rv Q]⟩ →
    NumPost (w12_Weight_l116 k N M x1 (.ptr ou 0 0) n i h) := by
  have hs := hp.short
  have out : ∀ N n h x9, NumPost (w12_Weight_p465 k N M x1 (.ptr ou 0 0) n x9 false h) := by
    intro N n h x9
    rw [w12_Weight_p465_eq, bsp_not rfl, w12_Weight_p15_eq]
    exact ⟨_, _, rfl⟩
  intro m
  induction m with
  | zero =>
    intro i N n h hi hN ho
    obtain ⟨N, rfl⟩ : ∃ q, N = q + 1 := ⟨N - 1, by omega⟩
    rw [w12_Weight_l116_eq, pad_ptr, ldv_at ho rfl, hp.len, bsp_not (decide_eq_false (by omega))]
    exact out _ _ _ _
  | succ m ih =>
    intro i N n h hi hN ho
    obtain ⟨N, rfl⟩ : ∃ q, N = q + 1 := ⟨N - 1, by omega⟩
    have hlt : i < ds.length := by omega
    obtain ⟨p, r, v, b, rest, k1, k2, k3, k4, hx⟩ := cd_at (R := ARes × Hp) hp hlt
    rw [w12_Weight_l116_eq, pad_ptr, ldv_at ho rfl, hp.len, bsp_of (decide_eq_true (by omega))]
    by_cases hn : n ≤ x1
    · rw [w12_Weight_p465_eq, bsp_of (decide_eq_true hn), pad_ptr, ldv_at ho rfl, hx, ldg4, var_agg (n := 4) (by rfl) (by rfl) (by simp [k1.one, k2.one, k3.one, k4.one])]
      have hc := get_new (h := h) ⟨0, 1, [.rv p, .rv r, .rv v, .rv b]⟩
      rw [pad_ptr, ldv_at hc rfl, k1.len, pad_ptr, ldv_at hc rfl, k2.len]
      have hs3 := k3.short
      exact Weight_values k3 k4 k N M _ hk x1 i (by omega) (fun n h hu => ih (i + 1) N n h (by omega) (by omega) hu) ds[i].values.length 0 k _ _ (by omega) (by omega) (get_old ho _) hc
    · rw [decide_eq_false hn]
      exact out _ _ _ _
theorem Weight_spec {cs : List RV} {u : Ut} (hu : IsUt cs u) (m : Int) : ∃ n, F_w12_Weight [.agg cs, I m] = some (.ret (I n)) := by
  obtain ⟨P, Q, rfl, hp, hq⟩ := hu
  have hs := hp.short
  have ho : ([⟨0, 1, [.rv P, .rv Q]⟩] : Hp)[0]? = some ⟨0, 1, [.rv P, .rv Q]⟩ := rfl
  unfold F_w12_Weight
  rw [List.map_cons, List.map_cons, List.map_nil, w12_Weight_eq, box_agg, List.nil_append, List.length_nil, show List.map AV.rv [P, Q] = [.rv P, .rv Q] from rfl, pad_ptr, ldv_at ho rfl, hp.len, pad_ptr, ldv_at ho rfl, IsUt.bytes_len hq, show ((0 : Int)) = ((0 : Nat) : Int) from rfl]
  obtain ⟨n, h', e⟩ := Weight_outer hp big ([⟨0, 1, [.rv P, .rv Q]⟩] : Hp).length (by rw [big_val]; omega) m u.codes.length 0 big (wri .i64 (u.codes.length + wri .i64 (Int.tdiv u.bytes 64))) _ (by omega) (by rw [big_val]; omega) ho
  rw [e]
  exact ⟨n, by simp [pureR, toRV, depthA]⟩
end Go.Proofs.Ytknphnmhjmejaaa
/-  What the flow's copies tell. No conditions. -/
namespace Go.Proofs.Ytknphnmhjmejaaa
set_option linter.unusedVariables false
theorem CopyValue_spec {cs : List RV} {v : Vl} (hv : IsVl cs v) : ∃ cs', F_r0_CopyValue [.agg cs] = some (.ret (.agg cs')) ∧ IsVl cs' v := by
  obtain ⟨a, rfl, ha⟩ := hv
  obtain ⟨r, e, hr⟩ := CopyNumbers_spec ha
  refine ⟨[I v.op, I v.kind, r, I v.n, I v.m], ?_, r, rfl, hr⟩
  unfold F_r0_CopyValue
  rw [List.map_cons, List.map_nil, r0_CopyValue_eq, box_agg, nwc_some, ldg_at (by rfl) (by rfl), var_agg (n := 5) (by rfl) (by rfl) (by simp [ha.one, oneI]), pad_ptr, ldv_at (by rfl) (by rfl),
    callP_ret (by simp [toRV, depthA]) e (.inl rfl), pad_ptr, stv_at (by rfl) (by simp) hr.one hr.cells, ldg_at (by rfl) (by rfl), stv_whole (by rfl) (by rfl) (by rfl) (by simp [hr.one, oneI]), fin_agg (by rfl) (by rfl)]
  rfl
theorem CopyBlock_spec {cs : List RV} {b : Blk} (hb : IsBlk cs b) : ∃ cs', F_r0_CopyBlock [.agg cs] = some (.ret (.agg cs')) ∧ IsBlk cs' b := by
  obtain ⟨a, p, s, t, rfl, ha, hp, hs, ht⟩ := hb
  obtain ⟨a', e1, ha'⟩ := CopyNumbers_spec ha
  obtain ⟨p', e2, hp'⟩ := CopyNumbers_spec hp
  obtain ⟨s', e3, hs'⟩ := CopyNumbers_spec hs
  obtain ⟨t', e4, ht'⟩ := CopyNumbers_spec ht
  refine ⟨[I b.kind, I b.n, a', p', s', t'], ?_, a', p', s', t', rfl, ha', hp', hs', ht'⟩
  unfold F_r0_CopyBlock
  rw [List.map_cons, List.map_nil, r0_CopyBlock_eq, box_agg, nwc_some, ldg_at (by rfl) (by rfl), var_agg (n := 6) (by rfl) (by rfl) (by simp [ha.one, hp.one, hs.one, ht.one, oneI]), pad_ptr, ldv_at (by rfl) (by rfl),
    callP_ret (by simp [toRV, depthA]) e1 (.inl rfl), pad_ptr, stv_at (by rfl) (by simp) ha'.one ha'.cells, pad_ptr, ldv_at (by rfl) (by rfl),
    callP_ret (by simp [toRV, depthA]) e2 (.inl rfl), pad_ptr, stv_at (by rfl) (by simp) hp'.one hp'.cells, pad_ptr, ldv_at (by rfl) (by rfl),
    callP_ret (by simp [toRV, depthA]) e3 (.inl rfl), pad_ptr, stv_at (by rfl) (by simp) hs'.one hs'.cells, pad_ptr, ldv_at (by rfl) (by rfl),
    callP_ret (by simp [toRV, depthA]) e4 (.inl rfl), pad_ptr, stv_at (by rfl) (by simp) ht'.one ht'.cells,
    ldg_at (by rfl) (by rfl), stv_whole (by rfl) (by rfl) (by rfl) (by simp [ha'.one, hp'.one, hs'.one, ht'.one, oneI]), fin_agg (by rfl) (by rfl)]
  rfl
theorem IsVl.len {c : List RV} {v : Vl} (k : IsVl c v) : c.length = 5 ∧ (c.map AV.rv).all oneA = true := by
  obtain ⟨a, rfl, ha⟩ := k
  exact ⟨rfl, by simp [ha.one, oneI]⟩
theorem IsBlk.len {c : List RV} {b : Blk} (k : IsBlk c b) : c.length = 6 ∧ (c.map AV.rv).all oneA = true := by
  obtain ⟨a, p, s, t, rfl, ha, hp, hs, ht⟩ := k
  exact ⟨rfl, by simp [ha.one, hp.one, hs.one, ht.one, oneI]⟩
theorem CopyValues_loop {x : RV} {vs : List Vl} (hx : IsRows 5 IsVl x vs) (k M : Nat) : ∀ (m i N : Nat) (h : Hp) (y : AV), i + m = vs.length → m < N → RowsAt 5 IsVl h y (vs.take i) →
    ∃ w h', r0_CopyValues_l116 k N M (.rv x) y i h = some (.ret w, h') ∧ RowsAt 5 IsVl h' w vs := by
  have hs := hx.short
  intro m
  induction m with
  | zero =>
    intro i N h y hi hN hy
    obtain ⟨N, rfl⟩ : ∃ N', N = N' + 1 := ⟨N - 1, by omega⟩
    rw [r0_CopyValues_l116_eq, hx.len, bsp_not (decide_eq_false (by omega)), r0_CopyValues_p15_eq]
    rw [List.take_of_length_le (by omega)] at hy
    exact ⟨_, _, rfl, hy⟩
  | succ m ih =>
    intro i N h y hi hN hy
    obtain ⟨N, rfl⟩ : ∃ N', N = N' + 1 := ⟨N - 1, by omega⟩
    have hlt : i < vs.length := by omega
    obtain ⟨a, rest, ha, hix⟩ := vl_at (R := ARes × Hp) hx hlt
    obtain ⟨cs', e, hc'⟩ := CopyValue_spec (cs := [I vs[i].op, I vs[i].kind, a, I vs[i].n, I vs[i].m]) (v := vs[i]) ⟨a, rfl, ha⟩
    obtain ⟨w, h3, hK, hw⟩ := hy.push (R := ARes × Hp) (b := 56) (z := [.rv (I 0), .rv (I 0), .rv .nils, .rv (I 0), .rv (I 0)]) (by simp; omega) (by omega) (by omega) rfl hc'.len.1 hc' hc'.len.2
    rw [r0_CopyValues_l116_eq, hx.len, bsp_of (decide_eq_true (by omega)), hix, ldg5, callP_ret (by simp [toRV, depthA]) e (.inl rfl), hK, wri_succ (by omega)]
    refine ih (i + 1) N h3 w (by omega) (by omega) ?_
    rw [List.take_add_one, List.getElem?_eq_getElem hlt]
    exact hw
theorem CopyValues_spec {x : RV} {vs : List Vl} (hx : IsRows 5 IsVl x vs) : ∃ y, F_r0_CopyValues [x] = some (.ret y) ∧ IsRows 5 IsVl y vs := by
  have hs := hx.short
  obtain ⟨w, h', e, hw⟩ := CopyValues_loop hx big ([] : Hp).length vs.length 0 big [] (.rv .nils) (by omega) (by rw [big_val]; omega) .nil
  obtain ⟨y, hy, hr⟩ := hw.done hs
  refine ⟨y, ?_, hr⟩
  unfold F_r0_CopyValues
  rw [List.map_cons, List.map_nil, r0_CopyValues_eq, show ((0 : Int)) = ((0 : Nat) : Int) from rfl, e]
  simp [pureR, hy]
theorem CopyBlocks_loop {x : RV} {vs : List Blk} (hx : IsRows 6 IsBlk x vs) (k M : Nat) : ∀ (m i N : Nat) (h : Hp) (y : AV), i + m = vs.length → m < N → RowsAt 6 IsBlk h y (vs.take i) →
    ∃ w h', r0_CopyBlocks_l116 k N M (.rv x) y i h = some (.ret w, h') ∧ RowsAt 6 IsBlk h' w vs := by
  have hs := hx.short
  intro m
  induction m with
  | zero =>
    intro i N h y hi hN hy
    obtain ⟨N, rfl⟩ : ∃ N', N = N' + 1 := ⟨N - 1, by omega⟩
    rw [r0_CopyBlocks_l116_eq, hx.len, bsp_not (decide_eq_false (by omega)), r0_CopyBlocks_p15_eq]
    rw [List.take_of_length_le (by omega)] at hy
    exact ⟨_, _, rfl, hy⟩
  | succ m ih =>
    intro i N h y hi hN hy
    obtain ⟨N, rfl⟩ : ∃ N', N = N' + 1 := ⟨N - 1, by omega⟩
    have hlt : i < vs.length := by omega
    obtain ⟨a, p, s, t, rest, h1, h2, h3, h4, hix⟩ := blk_at (R := ARes × Hp) hx hlt
    obtain ⟨cs', e, hc'⟩ := CopyBlock_spec (cs := [I vs[i].kind, I vs[i].n, a, p, s, t]) (b := vs[i]) ⟨a, p, s, t, rfl, h1, h2, h3, h4⟩
    obtain ⟨w, h3, hK, hw⟩ := hy.push (R := ARes × Hp) (b := 112) (z := [.rv (I 0), .rv (I 0), .rv .nils, .rv .nils, .rv .nils, .rv .nils]) (by simp; omega) (by omega) (by omega) rfl hc'.len.1 hc' hc'.len.2
    rw [r0_CopyBlocks_l116_eq, hx.len, bsp_of (decide_eq_true (by omega)), hix, ldg6, callP_ret (by simp [toRV, depthA]) e (.inl rfl), hK, wri_succ (by omega)]
    refine ih (i + 1) N h3 w (by omega) (by omega) ?_
    rw [List.take_add_one, List.getElem?_eq_getElem hlt]
    exact hw
theorem CopyBlocks_spec {x : RV} {vs : List Blk} (hx : IsRows 6 IsBlk x vs) : ∃ y, F_r0_CopyBlocks [x] = some (.ret y) ∧ IsRows 6 IsBlk y vs := by
  have hs := hx.short
  obtain ⟨w, h', e, hw⟩ := CopyBlocks_loop hx big ([] : Hp).length vs.length 0 big [] (.rv .nils) (by omega) (by rw [big_val]; omega) .nil
  obtain ⟨y, hy, hr⟩ := hw.done hs
  refine ⟨y, ?_, hr⟩
  unfold F_r0_CopyBlocks
  rw [List.map_cons, List.map_nil, r0_CopyBlocks_eq, show ((0 : Int)) = ((0 : Nat) : Int) from rfl, e]
  simp [pureR, hy]
theorem CopyCode_spec {cs : List RV} {d : Cd} (hd : IsCd cs d) : ∃ cs', F_r0_CopyCode [.agg cs] = some (.ret (.agg cs')) ∧ IsCd cs' d := by
  obtain ⟨p, r, v, b, rfl, hp, hr, hv, hb⟩ := hd
  obtain ⟨p', e1, hp'⟩ := CopyNumbers_spec hp
  obtain ⟨r', e2, hr'⟩ := CopyNumbers_spec hr
  obtain ⟨v', e3, hv'⟩ := CopyValues_spec hv
  obtain ⟨b', e4, hb'⟩ := CopyBlocks_spec hb
  refine ⟨[p', r', v', b'], ?_, p', r', v', b', rfl, hp', hr', hv', hb'⟩
  unfold F_r0_CopyCode
  rw [List.map_cons, List.map_nil, r0_CopyCode_eq, box_agg, nwc_some, ldg_at (by rfl) (by rfl), var_agg (n := 4) (by rfl) (by rfl) (by simp [hp.one, hr.one, hv.one, hb.one]), pad_ptr, ldv_at (by rfl) (by rfl),
    callP_ret (by simp [toRV, depthA]) e1 (.inl rfl), pad_ptr, stv_at (by rfl) (by simp) hp'.one hp'.cells, pad_ptr, ldv_at (by rfl) (by rfl),
    callP_ret (by simp [toRV, depthA]) e2 (.inl rfl), pad_ptr, stv_at (by rfl) (by simp) hr'.one hr'.cells, pad_ptr, ldv_at (by rfl) (by rfl),
    callP_ret (by simp [toRV, depthA]) e3 (.inl rfl), pad_ptr, stv_at (by rfl) (by simp) hv'.one hv'.cells, pad_ptr, ldv_at (by rfl) (by rfl),
    callP_ret (by simp [toRV, depthA]) e4 (.inl rfl), pad_ptr, stv_at (by rfl) (by simp) hb'.one hb'.cells,
    ldg_at (by rfl) (by rfl), stv_whole (by rfl) (by rfl) (by rfl) (by simp [hp'.one, hr'.one, hv'.one, hb'.one]), fin_agg (by rfl) (by rfl)]
  rfl
end Go.Proofs.Ytknphnmhjmejaaa
/-  What the law FlowPost tells: true, whatever the list of codes. No conditions. -/
namespace Go.Proofs.Ytknphnmhjmejaaa
set_option linter.unusedVariables false
/-- It tells that it holds. -/
def TR (o : Option (ARes × Hp)) : Prop := ∃ h, o = some (.ret (ab true), h)
/-- The place of a block in a part of the order; -1: none. -/
def rk (P : List Nat) (k x : Nat) : Int := if x ∈ P.take k then (P.idxOf x : Int) else -1
def rks (P : List Nat) (k n : Nat) : List Int := (List.range n).map (rk P k)
theorem rks_len (P : List Nat) (k n : Nat) : (rks P k n).length = n := by simp [rks]
theorem rks_at {P : List Nat} {k n x : Nat} (hx : x < n) : (rks P k n)[x]? = some (rk P k x) := by
  simp [rks, hx]
theorem idxOf_at {P : List Nat} (hnd : P.Nodup) {k : Nat} (hk : k < P.length) : P.idxOf P[k] = k := List.Nodup.idxOf_getElem hnd k hk
theorem rks_set {P : List Nat} (hnd : P.Nodup) {k n : Nat} (hk : k < P.length) (hn : P[k] < n) : (rks P k n).set P[k] (k : Int) = rks P (k + 1) n := by
  apply List.ext_getElem?
  intro i
  by_cases hi : i < n
  · rw [rks_at hi, List.getElem?_set]
    by_cases e : P[k] = i
    · rw [if_pos e, if_pos (by rw [rks_len]; exact hn)]
      unfold rk
      rw [if_pos (by rw [← e, List.take_add_one, List.getElem?_eq_getElem hk]; exact List.mem_append_right _ (by simp)), ← e, idxOf_at hnd hk]
    · rw [if_neg e, rks_at hi]
      unfold rk
      rw [List.take_add_one, List.getElem?_eq_getElem hk]
      simp only [List.mem_append, Option.toList_some, List.mem_singleton]
      by_cases h : i ∈ P.take k
      · simp [h]
      · have : ¬ i = P[k] := fun h => e h.symm
        simp [h, this]
  · rw [List.getElem?_eq_none (by simp [rks_len]; omega), List.getElem?_eq_none (by rw [rks_len]; omega)]
theorem rk_new {P : List Nat} (hnd : P.Nodup) {k : Nat} (hk : k < P.length) : rk P k P[k] = -1 := by
  unfold rk
  rw [if_neg]
  intro h
  obtain ⟨j, hj, e⟩ := List.getElem_of_mem h
  rw [List.getElem_take] at e
  have hj' : j < k ∧ j < P.length := by rw [List.length_take] at hj; omega
  have := (List.getElem_inj hnd).1 e
  omega
theorem rk_all {P : List Nat} {x : Nat} (hx : x ∈ P) : rk P P.length x = P.idxOf x := by
  unfold rk
  rw [List.take_length, if_pos hx]
theorem IsPost.back {bs : List Blk} {P : List Nat} (hP : IsPost bs P) {x y : Nat} (hx : x ∈ P) (hy : y ∈ sucs bs x) (h : P.idxOf x < P.idxOf y) : Way (sucs bs) y x := by
  have hyP : y ∈ P := (hP.mem y).2 (.step ((hP.mem x).1 hx) hy)
  obtain ⟨S, h1⟩ := hP
  obtain ⟨N, Q, k⟩ := h1.found
  have e : Q = P := by rw [k.p]; rfl
  subst e
  have hnd : Q.Nodup := k.qd
  have hlx : Q.idxOf x < Q.length := List.idxOf_lt_length_iff.2 hx
  have hly : Q.idxOf y < Q.length := List.idxOf_lt_length_iff.2 hyP
  have hsplit : Q = Q.take (Q.idxOf x) ++ x :: Q.drop (Q.idxOf x + 1) := by
    conv => lhs; rw [← List.take_append_drop (Q.idxOf x) Q, List.drop_eq_getElem_cons hlx, List.getElem_idxOf hlx]
  refine k.back _ _ x hsplit y hy ?_
  rw [List.mem_iff_getElem]
  refine ⟨Q.idxOf y - (Q.idxOf x + 1), by simp; omega, ?_⟩
  rw [List.getElem_drop]
  have : Q.idxOf x + 1 + (Q.idxOf y - (Q.idxOf x + 1)) = Q.idxOf y := by omega
  simp only [this]
  exact List.getElem_idxOf hly
theorem IsPost.last {bs : List Blk} {P : List Nat} (hP : IsPost bs P) : ∃ P0, P = P0 ++ [0] := by
  obtain ⟨S, h⟩ := hP
  cases h with
  | seen h => simp at h
  | go _ r1 r2 =>
    obtain ⟨rfl, rfl⟩ := r2.nil_inv
    exact ⟨_, rfl⟩
theorem post_kind {bs : List Blk} {P : List Nat} (hf : formOk bs = true) (hq : FlowOk bs) (hP : IsPost bs P) {x : Nat} {b : Blk} (hb : bs[x]? = some b) : x ∈ P ↔ b.kind ≠ 0 := by
  have hl : 0 < bs.length := by
    simp only [formOk, Bool.and_eq_true, decide_eq_true_eq] at hf
    exact hf.1.1
  have hok := formOk_succs hf
  constructor
  · intro hx
    have w := (hP.mem x).1 hx
    cases w with
    | refl => exact (hq.head b hb).1
    | @step y _ w e =>
      have hyl := w.lt (sucs_lt hok) hl
      rw [sucs_at hyl, List.mem_map] at e
      obtain ⟨n, hn, rfl⟩ := e
      obtain ⟨m, c, rfl, hc, hk⟩ := (blkOk_nums (formOk_mem hf (List.mem_of_getElem? (List.getElem?_eq_getElem hyl)))).2 n hn
      rw [Int.toNat_natCast] at hb
      rw [hb] at hc
      cases hc
      exact hk
  · intro hk
    exact (hP.mem x).2 ((way_rch hok hl).2 (hq.reach x b hb hk))
section
variable {X : RV} {ds : List Cd} {x4 : RV} {P : List Nat} {i : Nat}
theorem cd_read {l : RV} {ds : List Cd} (k : IsRows 4 IsCd l ds) {i : Nat} (hi : i < ds.length) : ∃ p r v b rest, IsCd [p, r, v, b] ds[i] ∧ IsRows 6 IsBlk b ds[i].blocks ∧ ∀ {R : Type} (K : AV → Option R), ixa 4 (.rv l) i K = K (.rv (.rop (p :: r :: v :: b :: rest))) := by
  cases k with
  | nil => simp at hi
  | mk r hl =>
    obtain ⟨c, rest, h1, h2, h3⟩ := r.at hi
    have h4 := h3
    obtain ⟨p, r, v, b, rfl, _, _, _, hb⟩ := h3
    refine ⟨p, r, v, b, rest, h4, hb, fun K => ?_⟩
    have : ((i : Int) < ds.length) := by omega
    simp [ixa, hi, h1]
theorem FP_inner (hX : IsRows 4 IsCd X ds) (hi : i < ds.length) (hf : formOk ds[i].blocks = true) (hq : FlowOk ds[i].blocks) (hP : IsPost ds[i].blocks P) {ro : Nat} (k N M N2 M2 M3 : Nat) (hk : 1000000000 < k) (q : Nat) (c : Int) (hql : q < ds[i].blocks.length) (hqP : q ∈ P) {sv : RV} (hsv : IsInts sv ds[i].blocks[q].succs)
    (outer : ∀ h, h[ro]? = some ⟨0, 1, (rks P P.length ds[i].blocks.length).map ai⟩ → TR (w13_FlowPost_p3448787 k N M N2 M2 (.rv X) i (.rv x4) (.sl ro 0 0 ds[i].blocks.length) c q h)) :
    ∀ (m j N3 : Nat) (h : Hp), j + m = ds[i].blocks[q].succs.length → m < N3 → h[ro]? = some ⟨0, 1, (rks P P.length ds[i].blocks.length).map ai⟩ →
      TR (w13_FlowPost_l220722332 k N M N2 M2 N3 M3 (.rv X) i (.rv x4) (.sl ro 0 0 ds[i].blocks.length) c q (.rv sv) j h) := by
  have hs := hsv.short
  have hok := formOk_succs hf
  have hl : 0 < ds[i].blocks.length ∧ ds[i].blocks.length ≤ 4096 := by
    simp only [formOk, Bool.and_eq_true, decide_eq_true_eq] at hf
    exact hf.1
  intro m
  induction m with
  | zero =>
    intro j N3 h hj hN ho
    obtain ⟨N3, rfl⟩ : ∃ q, N3 = q + 1 := ⟨N3 - 1, by omega⟩
    rw [w13_FlowPost_l220722332_eq, hsv.len, bsp_not (decide_eq_false (by omega))]
    exact outer h ho
  | succ m ih =>
    intro j N3 h hj hN ho
    obtain ⟨N3, rfl⟩ : ∃ q, N3 = q + 1 := ⟨N3 - 1, by omega⟩
    have hjl : j < ds[i].blocks[q].succs.length := by omega
    obtain ⟨y, hy, hyl⟩ := hok q ds[i].blocks[q] (List.getElem?_eq_getElem hql) ds[i].blocks[q].succs[j] (List.getElem_mem hjl)
    have hys : y ∈ sucs ds[i].blocks q := by
      rw [sucs_at hql, List.mem_map]
      exact ⟨_, List.getElem_mem hjl, by rw [hy]; simp⟩
    have hyP : y ∈ P := (hP.mem y).2 (.step ((hP.mem q).1 hqP) hys)
    have next : ∀ h, h[ro]? = some ⟨0, 1, (rks P P.length ds[i].blocks.length).map ai⟩ → TR (w13_FlowPost_p3531557321 k N M N2 M2 N3 M3 (.rv X) i (.rv x4) (.sl ro 0 0 ds[i].blocks.length) c q (.rv sv) j false h) := by
      intro h ho
      rw [w13_FlowPost_p3531557321_eq, bsp_not rfl, wri_succ (by omega)]
      exact ih (j + 1) N3 h (by omega) (by omega) ho
    rw [w13_FlowPost_l220722332_eq, hsv.len, bsp_of (decide_eq_true (by omega)), hsv.at hjl, hy, sl_at hyl, ldi_at (n := (P.idxOf y : Int)) ho (by rw [List.getElem?_map, rks_at hyl, rk_all hyP]; rfl), sl_at hql, ldi_at (n := (P.idxOf q : Int)) ho (by rw [List.getElem?_map, rks_at hql, rk_all hqP]; rfl)]
    by_cases hgt : P.idxOf q < P.idxOf y
    · obtain ⟨p, r, v, b, rest, hcd, _, hix⟩ := cd_read hX hi
      obtain ⟨w, e, hw⟩ := reaches_spec hcd hl.2 hok hyl hql
      have : w = true := hw.2 ((way_rch hok hyl).1 (hP.back hqP hys hgt))
      subst this
      rw [bsp_of (decide_eq_true (by omega)), hix, ldg4, hsv.at hjl, hy, callP_ret (by simp [toRV, depthA]) e (.inr rfl), asBool_b]
      exact next h ho
    · rw [bsp_not (decide_eq_false (by omega))]
      exact next h ho
theorem FP_blocks (hX : IsRows 4 IsCd X ds) (hi : i < ds.length) (hf : formOk ds[i].blocks = true) (hq : FlowOk ds[i].blocks) (hP : IsPost ds[i].blocks P) (hx4 : IsInts x4 (P.map Int.ofNat)) {ro : Nat} (k N M M2 : Nat) (hk : 1000000000 < k)
    (outer : ∀ h, TR (w13_FlowPost_p211 k N M (.rv X) i h)) :
    ∀ (m j N2 : Nat) (h : Hp), j + m = ds[i].blocks.length → m < N2 → h[ro]? = some ⟨0, 1, (rks P P.length ds[i].blocks.length).map ai⟩ →
      TR (w13_FlowPost_l862196 k N M N2 M2 (.rv X) i (.rv x4) (.sl ro 0 0 ds[i].blocks.length) ((ds[i].blocks.take j).countP (fun b => b.kind == 0) : Nat) j h) := by
  have hok := formOk_succs hf
  have hl : 0 < ds[i].blocks.length ∧ ds[i].blocks.length ≤ 4096 := by
    simp only [formOk, Bool.and_eq_true, decide_eq_true_eq] at hf
    exact hf.1
  obtain ⟨hnd, hlt, hple⟩ := hP.facts hok hl.1
  obtain ⟨p, r, v, b, rest, hcd, hb, hix⟩ := cd_read hX hi
  intro m
  induction m with
  | zero =>
    intro j N2 h hj hN ho
    obtain ⟨N2, rfl⟩ : ∃ q, N2 = q + 1 := ⟨N2 - 1, by omega⟩
    obtain ⟨P0, hP0⟩ := hP.last
    have hfp := (flowP_iff hf hP).2 hq
    have hall := hfp.all
    have hpl : P.length = P0.length + 1 := by rw [hP0]; simp
    have e1 : (((P.map Int.ofNat).length : Int) == 0) = false := by rw [beq_eq_false_iff_ne, List.length_map]; omega
    have e2 : P0.length < (P.map Int.ofNat).length := by simp; omega
    have e3 : (P.map Int.ofNat)[P0.length]'e2 = 0 := by
      have : P[P0.length]? = some 0 := by rw [hP0]; simp
      have h2 : (P.map Int.ofNat)[P0.length]? = some 0 := by rw [List.getElem?_map, this]; rfl
      rw [List.getElem?_eq_getElem e2] at h2
      exact Option.some.inj h2
    rw [List.take_of_length_le (by omega), w13_FlowPost_l862196_eq, sl_len, bsp_not (decide_eq_false (by omega)), w13_FlowPost_p107775_eq, hx4.len, sl_len, List.length_map,
      wri_small (n := (P.length : Int) + (ds[i].blocks.countP (fun b => b.kind == 0) : Nat)) (by omega) (by omega), bsp_not (by rw [bne_eq_false_iff_eq]; omega)]
    rw [List.length_map] at e1
    rw [hx4.len, List.length_map, bsp_not e1, hx4.len, List.length_map, wri_small (n := (P.length : Int) - 1) (by omega) (by omega), show (P.length : Int) - 1 = (P0.length : Int) by omega, hx4.at e2, e3, w13_FlowPost_p215551_eq, bsp_not (by rfl)]
    exact outer h
  | succ m ih =>
    intro j N2 h hj hN ho
    obtain ⟨N2, rfl⟩ : ∃ q, N2 = q + 1 := ⟨N2 - 1, by omega⟩
    have hjl : j < ds[i].blocks.length := by omega
    have hle : (ds[i].blocks.take j).countP (fun b => b.kind == 0) ≤ 4096 := Nat.le_trans List.countP_le_length (by simp; omega)
    have hc : (ds[i].blocks.take (j + 1)).countP (fun b => b.kind == 0) = (ds[i].blocks.take j).countP (fun b => b.kind == 0) + if ds[i].blocks[j].kind = 0 then 1 else 0 := by
      rw [List.take_add_one, List.getElem?_eq_getElem hjl, List.countP_append]
      simp [List.countP_cons]
    obtain ⟨a, q, s, t, rest', k1, k2, k3, k4, hbx⟩ := blk_at (R := ARes × Hp) hb hjl
    have hbk : IsBlk [I ds[i].blocks[j].kind, I ds[i].blocks[j].n, a, q, s, t] ds[i].blocks[j] := ⟨a, q, s, t, rfl, k1, k2, k3, k4⟩
    have hs3 := k3.short
    rw [w13_FlowPost_l862196_eq, sl_len, bsp_of (decide_eq_true (by omega)), hix, pad_rop3, ldv_rop, hbx, ldg6, callP_ret (by simp [toRV, depthA]) (Hole_spec hbk) (.inr rfl), asBool_b]
    by_cases h0 : ds[i].blocks[j].kind = 0
    · rw [if_pos h0] at hc
      rw [bsp_of (by simpa using h0), w13_FlowPost_p3448787_eq, wri_succ (by omega), wri_succ (by omega), ← hc]
      exact ih (j + 1) N2 h (by omega) (by omega) ho
    · rw [if_neg h0] at hc
      rw [bsp_not (by simpa using h0), hix, pad_rop3, ldv_rop, hbx, pad_rop4, ldv_rop]
      refine FP_inner hX hi hf hq hP k N M N2 M2 _ hk j _ hjl ((post_kind hf hq hP (List.getElem?_eq_getElem hjl)).2 h0) k3 (fun h ho => ?_) ds[i].blocks[j].succs.length 0 k h (by omega) (by omega) ho
      rw [w13_FlowPost_p3448787_eq, wri_succ (by omega)]
      have := ih (j + 1) N2 h (by omega) (by omega) ho
      rw [hc] at this
      exact this
theorem FP_ranks (hX : IsRows 4 IsCd X ds) (hi : i < ds.length) (hf : formOk ds[i].blocks = true) (hq : FlowOk ds[i].blocks) (hP : IsPost ds[i].blocks P) (hx4 : IsInts x4 (P.map Int.ofNat)) {ro : Nat} (k N M M2 : Nat) (hk : 1000000000 < k)
    (outer : ∀ h, TR (w13_FlowPost_p211 k N M (.rv X) i h)) :
    ∀ (m j N2 : Nat) (h : Hp), j + m = P.length → m < N2 → h[ro]? = some ⟨0, 1, (rks P j ds[i].blocks.length).map ai⟩ →
      TR (w13_FlowPost_l215540 k N M N2 M2 (.rv X) i (.rv x4) (.sl ro 0 0 ds[i].blocks.length) j h) := by
  have hok := formOk_succs hf
  have hl : 0 < ds[i].blocks.length ∧ ds[i].blocks.length ≤ 4096 := by
    simp only [formOk, Bool.and_eq_true, decide_eq_true_eq] at hf
    exact hf.1
  obtain ⟨hnd, hlt, hple⟩ := hP.facts hok hl.1
  obtain ⟨p, r, v, b, rest, hcd, hb, hix⟩ := cd_read hX hi
  intro m
  induction m with
  | zero =>
    intro j N2 h hj hN ho
    obtain ⟨N2, rfl⟩ : ∃ q, N2 = q + 1 := ⟨N2 - 1, by omega⟩
    obtain rfl : j = P.length := by omega
    rw [w13_FlowPost_l215540_eq, hx4.len, List.length_map, bsp_not (decide_eq_false (by omega)), w13_FlowPost_p26943_eq]
    exact FP_blocks hX hi hf hq hP hx4 k N M h.length hk outer ds[i].blocks.length 0 k h (by omega) (by omega) ho
  | succ m ih =>
    intro j N2 h hj hN ho
    obtain ⟨N2, rfl⟩ : ∃ q, N2 = q + 1 := ⟨N2 - 1, by omega⟩
    have hjl : j < P.length := by omega
    have hjl' : j < (P.map Int.ofNat).length := by simpa using hjl
    have hpn : P[j] < ds[i].blocks.length := hlt _ (List.getElem_mem hjl)
    have e1 : (P.map Int.ofNat)[j]'hjl' = ((P[j] : Nat) : Int) := by simp
    obtain ⟨a, q, s, t, rest', k1, k2, k3, k4, hbx⟩ := blk_at (R := ARes × Hp) hb hpn
    have hbk : IsBlk [I ds[i].blocks[P[j]].kind, I ds[i].blocks[P[j]].n, a, q, s, t] ds[i].blocks[P[j]] := ⟨a, q, s, t, rfl, k1, k2, k3, k4⟩
    have hkind := (post_kind hf hq hP (List.getElem?_eq_getElem hpn)).1 (List.getElem_mem hjl)
    rw [w13_FlowPost_l215540_eq, hx4.len, List.length_map, bsp_of (decide_eq_true (by omega)), hx4.at hjl', e1, bsp_not (decide_eq_false (by omega)), hx4.at hjl', e1, sl_len, bsp_not (decide_eq_false (by omega)), hx4.at hjl', e1, sl_at hpn,
      ldi_at (n := -1) ho (by rw [List.getElem?_map, rks_at hpn, rk_new hnd hjl]; rfl), bsp_not (decide_eq_false (by omega)), hix, pad_rop3, ldv_rop, hx4.at hjl', e1, hbx, ldg6, callP_ret (by simp [toRV, depthA]) (Hole_spec hbk) (.inr rfl), asBool_b,
      w13_FlowPost_p6897297_eq, bsp_not (by simpa using hkind), hx4.at hjl', e1, sl_at hpn, stv_at ho (by simp [rks_len]; exact hpn) rfl rfl, wri_succ (by omega)]
    refine ih (j + 1) N2 _ (by omega) (by omega) ?_
    have : ((rks P j ds[i].blocks.length).map ai).set P[j] (ai j) = (rks P (j + 1) ds[i].blocks.length).map ai := by
      rw [← rks_set hnd hjl hpn, List.map_set]
    rw [this]
    exact get_set_eq ho
theorem FP_fill (k N M M2 : Nat) {n : Nat} (hn : n ≤ 4096) {ro : Nat} (outer : ∀ h, h[ro]? = some ⟨0, 1, (List.replicate n (-1)).map ai⟩ → TR (w13_FlowPost_p13471 k N M (.rv X) i (.rv x4) (.sl ro 0 0 n) h)) :
    ∀ (m j N2 : Nat) (h : Hp), j + m = n → m < N2 → h[ro]? = some ⟨0, 1, (List.replicate j (-1) ++ List.replicate m 0).map ai⟩ → TR (w13_FlowPost_l107764 k N M N2 M2 (.rv X) i (.rv x4) (.sl ro 0 0 n) j h) := by
  intro m
  induction m with
  | zero =>
    intro j N2 h hj hN ho
    obtain ⟨N2, rfl⟩ : ∃ q, N2 = q + 1 := ⟨N2 - 1, by omega⟩
    obtain rfl : j = n := by omega
    rw [w13_FlowPost_l107764_eq, sl_len, bsp_not (decide_eq_false (by omega))]
    exact outer h (by simpa using ho)
  | succ m ih =>
    intro j N2 h hj hN ho
    obtain ⟨N2, rfl⟩ : ∃ q, N2 = q + 1 := ⟨N2 - 1, by omega⟩
    rw [w13_FlowPost_l107764_eq, sl_len, bsp_of (decide_eq_true (by omega)), sl_at (by omega), stv_at ho (by simp) rfl rfl, wri_succ (by omega)]
    refine ih (j + 1) N2 _ (by omega) (by omega) ?_
    have : ((List.replicate j (-1 : Int) ++ List.replicate (m + 1) 0).map ai).set j (ai (-1)) = (List.replicate (j + 1) (-1 : Int) ++ List.replicate m 0).map ai := by
      rw [List.map_append, List.set_append_right _ _ (by simp), List.replicate_succ' (n := j)]
      simp [List.replicate_succ]
    rw [this]
    exact get_set_eq ho
theorem FP_outer (hX : IsRows 4 IsCd X ds) (k M : Nat) (hk : 1000000000 < k) : ∀ (m i N : Nat) (h : Hp), i + m = ds.length → m < N → TR (w13_FlowPost_l52 k N M (.rv X) i h) := by
  have hs := hX.short
  have fin : ∀ i N h, TR (w13_FlowPost_p209 k N M (.rv X) i false h) := by
    intro i N h
    rw [w13_FlowPost_p209_eq, bsp_not rfl, w13_FlowPost_p7_eq, callP_ret (by rfl) wakes_spec (.inr rfl), asBool_b]
    exact ⟨h, rfl⟩
  intro m
  induction m with
  | zero =>
    intro i N h hi hN
    obtain ⟨N, rfl⟩ : ∃ q, N = q + 1 := ⟨N - 1, by omega⟩
    rw [w13_FlowPost_l52_eq, hX.len, bsp_not (decide_eq_false (by omega))]
    exact fin i N h
  | succ m ih =>
    intro i N h hi hN
    obtain ⟨N, rfl⟩ : ∃ q, N = q + 1 := ⟨N - 1, by omega⟩
    have hil : i < ds.length := by omega
    rw [w13_FlowPost_l52_eq, hX.len, bsp_of (decide_eq_true (by omega))]
    by_cases h10 : i < 10
    · rw [decide_eq_true (by omega : (i : Int) < 10)]
      obtain ⟨p, r, v, b, rest, hcd, hb, hix⟩ := cd_read hX hil
      have next : ∀ h, TR (w13_FlowPost_p211 k N M (.rv X) i h) := by
        intro h
        rw [w13_FlowPost_p211_eq, wri_succ (by omega)]
        exact ih (i + 1) N h (by omega) (by omega)
      have hone := hcd
      obtain ⟨p, r, v, b, e, c1, c2, c3, c4⟩ := hone
      cases e
      have e1 : ∀ K : AV → Hp → Option (ARes × Hp), bsl 4 1 [.rv .nils, .rv .nils, .rv .nils, .rv .nils] [(some (0, 4), .agg [.rv p, .rv r, .rv v, .rv b])] h K = K (.sl h.length 0 0 1) (h ++ [⟨0, 4, [.rv p, .rv r, .rv v, .rv b]⟩]) := fun K => rfl
      have e2 : ∀ (y : AV) (K : AV → Option (ARes × Hp)), vcells y = some [y] → bld [.rv .nils, .rv .nils] [(some (0, 1), y)] K = K (.agg [y, .rv .nils]) := by
        intro y K hy
        simp [bld, fillA, hy, setAt]
      have hu : IsUt [.ros [p, r, v, b] 1, .nils] ⟨[ds[i]], 0⟩ := ⟨_, _, rfl, .mk (n := 4) (Q := IsCd) (l := [ds[i]]) (.cons (c := [p, r, v, b]) rfl hcd .nil) (by simp), .inl ⟨rfl, rfl⟩⟩
      obtain ⟨w, hw⟩ := Weight_spec hu 2000
      have hr : [AV.agg [.sl h.length 0 0 1, .rv .nils], .rv (.int .i64 2000)].mapM (toRV (h ++ [⟨0, 4, [.rv p, .rv r, .rv v, .rv b]⟩]) depthA) = some [.agg [.ros [p, r, v, b] 1, .nils], I 2000] := by
        simp [depthA, toRV]
      rw [w13_FlowPost_p209_eq, bsp_of rfl, hix, ldg4, e1, e2 _ _ rfl, callP_ret hr hw (.inr rfl), asInt_i]
      by_cases hbig : w > 2000
      · rw [bsp_of (decide_eq_true hbig)]
        exact ⟨_, rfl⟩
      · obtain ⟨cs', hc, hcd'⟩ := CopyCode_spec hcd
        rw [bsp_not (decide_eq_false hbig), hix, ldg4, callP_ret (by simp [toRV, depthA]) hc (.inl rfl)]
        have key : ∀ (x : RV) (e : Int), F_flow_Post [.agg cs'] = some (.ret (.tuple [x, I e])) → ∀ h', (callP F_flow_Post h' [.rv (.agg cs')] (fun r14 => xtr r14 0 fun v16 => xtr r14 1 fun v17 => asInt .i64 v17 fun n18 => callP F_w13_num h' [(.rv (.int .i64 n18))] (fun r19 => asInt .i64 r19 fun n21 => bsp ((n21 != 0)) (w13_FlowPost_p6733 k N M (.rv X) i v16 (true) (h')) (ixa 4 (.rv X) i fun p22 => ldg 4 h' p22 fun v23 => callP F_r13_Flow h' [v23] (fun r24 => asInt .i64 r24 fun n26 => w13_FlowPost_p6733 k N M (.rv X) i v16 ((n26 != 0)) (h')) (fun q25 => some (.pan q25, h')))) (fun q20 => some (.pan q20, h'))) (fun q15 => some (.pan q15, h'))) =
            bsp (e != 0) (w13_FlowPost_p6733 k N M (.rv X) i (.rv x) (true) (h')) (ixa 4 (.rv X) i fun p22 => ldg 4 h' p22 fun v23 => callP F_r13_Flow h' [v23] (fun r24 => asInt .i64 r24 fun n26 => w13_FlowPost_p6733 k N M (.rv X) i (.rv x) ((n26 != 0)) (h')) (fun q25 => some (.pan q25, h'))) := by
          intro x e hF h'
          have h4 : ∀ (K : AV → Option (ARes × Hp)), xtr (.rv (.tuple [x, I e])) 0 K = K (.rv x) := fun K => rfl
          have h5 : ∀ (K : AV → Option (ARes × Hp)), xtr (.rv (.tuple [x, I e])) 1 K = K (.rv (I e)) := fun K => rfl
          rw [callP_ret (by simp [toRV, depthA]) hF (.inl rfl), h4, h5, asInt_i, callP_ret (by simp [toRV, depthA]) (num_spec e) (.inr rfl), asInt_i]
        have skip : ∀ (x : AV) h, TR (w13_FlowPost_p6733 k N M (.rv X) i x true h) := by
          intro x h
          rw [w13_FlowPost_p6733_eq, bsp_of rfl]
          exact next h
        by_cases hf : formOk ds[i].blocks = true
        · by_cases hq : FlowOk ds[i].blocks
          · have hl : 0 < ds[i].blocks.length ∧ ds[i].blocks.length ≤ 4096 := by
              simp only [formOk, Bool.and_eq_true, decide_eq_true_eq] at hf
              exact hf.1
            obtain ⟨P, hP⟩ := IsPost.ex (formOk_succs hf) hl.1
            obtain ⟨x, e, hx⟩ := Post_spec hcd' hf hq hP
            rw [key x 0 e, bsp_not (by rfl), hix, ldg4, callP_ret (by simp [toRV, depthA]) ((Flow_spec hcd).2.1 hf hq) (.inr rfl), asInt_i, w13_FlowPost_p6733_eq, bsp_not (by rfl), hix, pad_rop3, ldv_rop, hb.len, mks_one (by omega) (by omega), show ((0 : Int)) = ((0 : Nat) : Int) from rfl]
            refine FP_fill k N M _ hl.2 (fun h ho => ?_) ds[i].blocks.length 0 k _ (by omega) (by omega) ?_
            · rw [w13_FlowPost_p13471_eq]
              refine FP_ranks hX hil hf hq hP hx k N M _ hk next P.length 0 k h (by omega) (by have := (hP.facts (formOk_succs hf) hl.1).2.2; omega) ?_
              have : rks P 0 ds[i].blocks.length = List.replicate ds[i].blocks.length (-1) := by
                apply List.ext_getElem?
                intro j
                by_cases hj : j < ds[i].blocks.length
                · rw [rks_at hj, List.getElem?_replicate, if_pos hj]
                  simp [rk]
                · rw [List.getElem?_eq_none (by rw [rks_len]; omega), List.getElem?_eq_none (by simp; omega)]
              rw [this]
              exact ho
            · have := get_new (h := h ++ [(⟨0, 4, [.rv p, .rv r, .rv v, .rv b]⟩ : Ob)]) ⟨0, 1, zrep [ai ((0 : Nat) : Int)] ds[i].blocks.length⟩
              rw [this]
              simp [zrep]
          · rw [key .nils 131 ((Post_bad hcd').2 hf hq), bsp_of (by rfl)]
            exact skip _ _
        · rw [key .nils 130 ((Post_bad hcd').1 (by simpa using hf)), bsp_of (by rfl)]
          exact skip _ _
    · rw [decide_eq_false (by omega : ¬ (i : Int) < 10)]
      exact fin i N h
end
theorem FlowPost_spec {X : RV} {ds : List Cd} (hX : IsRows 4 IsCd X ds) : F_w13_FlowPost [X] = some (.ret (.bool true)) := by
  have hs := hX.short
  obtain ⟨h, e⟩ := FP_outer hX big ([] : Hp).length (by rw [big_val]; omega) ds.length 0 big [] (by omega) (by rw [big_val]; omega)
  unfold F_w13_FlowPost
  rw [List.map_cons, List.map_nil, w13_FlowPost_eq, show ((0 : Int)) = ((0 : Nat) : Int) from rfl, e]
  simp [pureR, toRV, depthA]
end Go.Proofs.Ytknphnmhjmejaaa
/-  Immediate dominators by turns, each block's out of those of what leads to it, until nothing turns: plain. No conditions. -/
namespace Go.Proofs.Ytknphnmhjmejaaa
set_option linter.unusedVariables false
/-- Blocks, their places in postorder, what leads to each; of each but the first one that leads to it and stands behind it. -/
structure Gr where
  N : Nat → Prop
  num : Nat → Nat
  pr : Nat → List Nat
  t : Nat → Nat
  n0 : N 0
  inj : ∀ a b, N a → N b → num a = num b → a = b
  top : ∀ b, N b → b ≠ 0 → num b < num 0
  pin : ∀ b, N b → ∀ p ∈ pr b, N p
  tp : ∀ b, N b → b ≠ 0 → t b ∈ pr b ∧ num b < num (t b)
/-- What is reached without d. -/
inductive Gr.Av (G : Gr) (d : Nat) : Nat → Prop
  | root (h : 0 ≠ d) : Gr.Av G d 0
  | step {p b : Nat} (r : Gr.Av G d p) (h : p ∈ G.pr b) (hb : G.N b) (hd : b ≠ d) : Gr.Av G d b
abbrev Par := Nat → Option Nat
inductive Anc (par : Par) : Nat → Nat → Prop
  | refl (x : Nat) : Anc par x x
  | step {x y e : Nat} (h : par x = some y) (r : Anc par y e) : Anc par x e
inductive TAn (G : Gr) : Nat → Nat → Prop
  | refl (x : Nat) : TAn G x x
  | step {x e : Nat} (h : x ≠ 0) (hx : G.N x) (r : TAn G (G.t x) e) : TAn G x e
theorem TAn.trans {G : Gr} {x y z : Nat} (a : TAn G x y) (b : TAn G y z) : TAn G x z := by
  induction a with
  | refl => exact b
  | step h hx _ ih => exact .step h hx (ih b)
section
variable {par : Par}
theorem Anc.trans {x y z : Nat} (a : Anc par x y) (b : Anc par y z) : Anc par x z := by
  induction a with
  | refl => exact b
  | step h _ ih => exact .step h (ih b)
theorem Anc.linear {x a b : Nat} (h : Anc par x a) (k : Anc par x b) : Anc par a b ∨ Anc par b a := by
  induction h with
  | refl => exact .inl k
  | step e r ih =>
    cases k with
    | refl => exact .inr (.step e r)
    | step e2 r2 =>
      rw [e] at e2
      cases e2
      exact ih r2
theorem Anc.next {x y e : Nat} (h : Anc par x e) (hn : x ≠ e) (hp : par x = some y) : Anc par y e := by
  cases h with
  | refl => exact absurd rfl hn
  | step e2 r => rw [hp] at e2; cases e2; exact r
end
structure Inv (G : Gr) (par : Par) : Prop where
  root : par 0 = some 0
  up : ∀ x y, x ≠ 0 → par x = some y → G.N x ∧ G.N y ∧ G.num x < G.num y ∧ par y ≠ none ∧ TAn G x y
  dom : ∀ x, G.N x → par x ≠ none → ∀ d, ¬ G.Av d x → Anc par x d
section
variable {G : Gr} {par : Par}
theorem Inv.nz (k : Inv G par) {x e : Nat} (h : Anc par x e) (hx : x = 0) : e = 0 := by
  induction h with
  | refl => exact hx
  | step hp r ih =>
    subst hx
    rw [k.root] at hp
    cases hp
    exact ih rfl
theorem Inv.le (k : Inv G par) {x e : Nat} (h : Anc par x e) : x = e ∨ G.num x < G.num e := by
  induction h with
  | refl => exact .inl rfl
  | @step x y e hp r ih =>
    by_cases hx : x = 0
    · subst hx
      exact .inl (k.nz (.step hp r) rfl).symm
    · have := (k.up x y hx hp).2.2.1
      rcases ih with rfl | h
      · exact .inr this
      · exact .inr (by omega)
theorem Inv.le' (k : Inv G par) {x e : Nat} (h : Anc par x e) : G.num x ≤ G.num e := by
  rcases k.le h with rfl | h <;> omega
theorem Inv.anti (k : Inv G par) {x e : Nat} (h : Anc par x e) (h2 : Anc par e x) : x = e := by
  rcases k.le h with h | h
  · exact h
  · have := k.le' h2
    omega
theorem Inv.set (k : Inv G par) {x e : Nat} (h : Anc par x e) (hs : par x ≠ none) : par e ≠ none := by
  induction h with
  | refl => exact hs
  | @step x y e hp r ih =>
    by_cases hx : x = 0
    · subst hx
      rw [k.root] at hp
      cases hp
      exact ih hs
    · exact ih (k.up x y hx hp).2.2.2.1
theorem Inv.n (k : Inv G par) {x e : Nat} (h : Anc par x e) (hs : G.N x) : G.N e := by
  induction h with
  | refl => exact hs
  | @step x y e hp r ih =>
    by_cases hx : x = 0
    · subst hx
      rw [k.root] at hp
      cases hp
      exact ih hs
    · exact ih (k.up x y hx hp).2.1
theorem Inv.tan (k : Inv G par) {x e : Nat} (h : Anc par x e) : TAn G x e := by
  induction h with
  | refl x => exact .refl x
  | @step x y e hp r ih =>
    by_cases hx : x = 0
    · have := k.nz (.step hp r) hx
      subst hx; subst this
      exact .refl 0
    · exact (k.up x y hx hp).2.2.2.2.trans ih
/-- Along those that stand behind each a block is reached without what stands behind all. -/
theorem Gr.tpath {x b d : Nat} (h : TAn G x b) (hd : G.num b < G.num d) (hx : G.N x) : G.num x ≤ G.num b ∧ (G.Av d b → G.Av d x) := by
  induction h with
  | refl => exact ⟨Nat.le_refl _, id⟩
  | step h0 hN r ih =>
    obtain ⟨h1, h2⟩ := G.tp _ hN h0
    obtain ⟨h3, h4⟩ := ih hd (G.pin _ hN _ h1)
    refine ⟨by omega, fun h => .step (h4 h) h1 hN ?_⟩
    rintro rfl
    omega
def upd (par : Par) (y c : Nat) : Par := fun x => if x = y then some c else par x
theorem upd_same {y c : Nat} : upd par y c y = some c := by simp [upd]
theorem upd_ne {x y c : Nat} (h : x ≠ y) : upd par y c x = par x := by simp [upd, h]
/-- What does not come to y is as it was. -/
theorem anc_high {x y c e : Nat} (hn : ¬ Anc par x y) : Anc (upd par y c) x e ↔ Anc par x e := by
  constructor
  · intro h
    induction h with
    | refl => exact .refl _
    | @step x z e hp r ih =>
      have hxy : x ≠ y := by rintro rfl; exact hn (.refl _)
      rw [upd_ne hxy] at hp
      exact .step hp (ih fun h => hn (.step hp h))
  · intro h
    induction h with
    | refl => exact .refl _
    | @step x z e hp r ih =>
      have hxy : x ≠ y := by rintro rfl; exact hn (.refl _)
      exact .step (by rw [upd_ne hxy]; exact hp) (ih fun h => hn (.step hp h))
theorem anc_to {x y c : Nat} (h : Anc par x y) : Anc (upd par y c) x y := by
  induction h with
  | refl => exact .refl _
  | @step x z y hp r ih =>
    by_cases hxy : x = y
    · subst hxy; exact .refl _
    · exact .step (by rw [upd_ne hxy]; exact hp) ih
theorem anc_split {x y c e : Nat} (h : Anc par x e) : Anc (upd par y c) x e ∨ (Anc par x y ∧ Anc par y e ∧ y ≠ e) := by
  induction h with
  | refl => exact .inl (.refl _)
  | @step x z e hp r ih =>
    by_cases hxy : x = y
    · subst hxy
      by_cases he : x = e
      · subst he; exact .inl (.refl _)
      · exact .inr ⟨.refl _, .step hp r, he⟩
    · rcases ih with h | ⟨h1, h2, h3⟩
      · exact .inl (.step (by rw [upd_ne hxy]; exact hp) h)
      · exact .inr ⟨.step hp h1, h2, h3⟩
/-- All that is above all of what leads to y, and is known: above c. -/
def IsMeet (G : Gr) (par : Par) (y c : Nat) : Prop := ∀ e, Anc par c e ↔ ∀ p ∈ G.pr y, par p ≠ none → Anc par p e
structure Put (G : Gr) (par : Par) (y c : Nat) : Prop where
  k : Inv G par
  y0 : y ≠ 0
  hy : G.N y
  ht : par (G.t y) ≠ none
  m : IsMeet G par y c
theorem Put.tc {y c : Nat} (u : Put G par y c) : Anc par (G.t y) c := (u.m c).1 (.refl c) _ (G.tp y u.hy u.y0).1 u.ht
theorem Put.lt {y c : Nat} (u : Put G par y c) : G.num y < G.num c := by
  have := u.k.le' u.tc
  have := (G.tp y u.hy u.y0).2
  omega
theorem Put.high {y c : Nat} (u : Put G par y c) {x e : Nat} (h : G.num y < G.num x) : Anc (upd par y c) x e ↔ Anc par x e :=
  anc_high fun h2 => by have := u.k.le' h2; omega
theorem Put.inv {y c : Nat} (u : Put G par y c) : Inv G (upd par y c) := by
  have hset : ∀ x, par x ≠ none → upd par y c x ≠ none := by
    intro x h
    by_cases hx : x = y
    · subst hx; simp [upd_same]
    · rwa [upd_ne hx]
  have dy : ∀ d, ¬ G.Av d y → Anc (upd par y c) y d := by
    intro d hd
    by_cases e : y = d
    · subst e; exact .refl _
    · refine .step upd_same ((u.high u.lt).2 ((u.m d).2 fun p hp hs => u.k.dom p (G.pin _ u.hy _ hp) hs d fun h => hd (.step h hp u.hy e)))
  refine ⟨by rw [upd_ne (Ne.symm u.y0)]; exact u.k.root, ?_, ?_⟩
  · intro x z hx hp
    by_cases hxy : x = y
    · subst hxy
      rw [upd_same] at hp
      cases hp
      refine ⟨u.hy, u.k.n u.tc (G.pin _ u.hy _ (G.tp x u.hy u.y0).1), u.lt, hset _ (u.k.set u.tc u.ht), .step u.y0 u.hy (u.k.tan u.tc)⟩
    · rw [upd_ne hxy] at hp
      obtain ⟨h1, h2, h3, h4, h5⟩ := u.k.up x z hx hp
      exact ⟨h1, h2, h3, hset _ h4, h5⟩
  · intro x hN hs d hd
    by_cases hxy : x = y
    · subst hxy; exact dy d hd
    · rw [upd_ne hxy] at hs
      rcases anc_split (y := y) (c := c) (u.k.dom x hN hs d hd) with h | ⟨h1, h2, h3⟩
      · exact h
      · have hlt : G.num y < G.num d := (u.k.le h2).resolve_left h3
        have := (G.tpath (u.k.tan h1) hlt hN).2
        exact (anc_to h1).trans (dy d fun h => hd (this h))
/-- What is kept while turns are made: 'v' is the place up to which this turn has not come. -/
structure Kept (G : Gr) (par : Par) (v : Nat) : Prop where
  k : Inv G par
  con : ∀ b q, b ≠ 0 → par b = some q → ∀ e, (∀ p ∈ G.pr b, par p ≠ none → Anc par p e) → Anc par q e
  low : ∀ b q z, b ≠ 0 → par b = some q → G.num z < v → Anc par q z → Anc par (G.t b) z
  new : ∀ b q, b ≠ 0 → par b = some q → v ≤ G.num b → Anc par (G.t b) q
  was : ∀ b, G.N b → v ≤ G.num b → par b ≠ none
theorem Kept.put {v y c : Nat} (K : Kept G par v) (y0 : y ≠ 0) (hy : G.N y) (hv : v = G.num y + 1) (m : IsMeet G par y c) : Put G par y c :=
  ⟨K.k, y0, hy, K.was _ (G.pin _ hy _ (G.tp y hy y0).1) (by have := (G.tp y hy y0).2; omega), m⟩
theorem Kept.rises {v y c q : Nat} (K : Kept G par v) (u : Put G par y c) (hq : par y = some q) : q = c ∨ G.num q < G.num c :=
  K.k.le (K.con y q u.y0 hq c ((u.m c).1 (.refl c)))
theorem Kept.next {v y c : Nat} (K : Kept G par v) (hv : v = G.num y + 1) (u : Put G par y c) : Kept G (upd par y c) (G.num y) := by
  have k := u.k
  have k' := u.inv
  have shrink : ∀ x e, par x ≠ none → Anc (upd par y c) x e → Anc par x e := by
    intro x e hs h
    induction h with
    | refl => exact .refl _
    | @step x z e hp r ih =>
      by_cases hxy : x = y
      · subst hxy
        rw [upd_same] at hp
        cases hp
        cases hq : par x with
        | none => exact absurd hq hs
        | some q =>
          have h1 : Anc par q c := K.con x q u.y0 hq c ((u.m c).1 (.refl c))
          exact .step hq (h1.trans ((u.high u.lt).1 r))
      · rw [upd_ne hxy] at hp
        refine .step hp (ih ?_)
        by_cases hx : x = 0
        · subst hx
          rw [k.root] at hp
          cases hp
          exact hs
        · exact (k.up x z hx hp).2.2.2.1
  have setb : ∀ x, par x ≠ none → upd par y c x ≠ none := by
    intro x h
    by_cases hx : x = y
    · subst hx; simp [upd_same]
    · rwa [upd_ne hx]
  refine ⟨k', ?_, ?_, ?_, ?_⟩
  · intro b q hb hq e he
    by_cases hby : b = y
    · subst hby
      rw [upd_same] at hq
      cases hq
      exact (u.high u.lt).2 ((u.m e).2 fun p hp hs => shrink p e hs (he p hp (setb p hs)))
    · rw [upd_ne hby] at hq
      have hold := K.con b q hb hq e fun p hp hs => shrink p e hs (he p hp (setb p hs))
      by_cases hqy : Anc par q y
      · rcases anc_split (y := y) (c := c) hold with h | ⟨h1, h2, h3⟩
        · exact h
        · have hN := (k.up b q hb hq).1
          have ht := K.low b q y hb hq (by omega) hqy
          have htb := (G.tp b hN hb).1
          have hlt : G.num y < G.num e := (k.le h2).resolve_left h3
          have hts : par (G.t b) ≠ none := by
            intro h0
            have hpy : par y ≠ none := k.set hqy (k.up b q hb hq).2.2.2.1
            cases ht with
            | refl => exact hpy h0
            | step hp _ => rw [h0] at hp; cases hp
          have h4 := he _ htb (setb _ hts)
          rcases Anc.linear (anc_to (c := c) ht) h4 with h5 | h5
          · exact (anc_to hqy).trans h5
          · have := k'.le' h5
            omega
      · exact (anc_high hqy).2 hold
  · intro b q z hb hq hz h
    by_cases hby : b = y
    · subst hby
      rw [upd_same] at hq
      cases hq
      have := k'.le' h
      have := u.lt
      omega
    · rw [upd_ne hby] at hq
      have h1 := shrink q z (k.up b q hb hq).2.2.2.1 h
      rcases anc_split (y := y) (c := c) (K.low b q z hb hq (by omega) h1) with h | ⟨_, h2, _⟩
      · exact h
      · have := k.le' h2
        omega
  · intro b q hb hq hv'
    by_cases hby : b = y
    · subst hby
      rw [upd_same] at hq
      cases hq
      exact (u.high (G.tp b u.hy hb).2).2 u.tc
    · rw [upd_ne hby] at hq
      have hN := (k.up b q hb hq).1
      have hne : G.num b ≠ G.num y := fun h => hby (G.inj _ _ hN u.hy h)
      refine (u.high ?_).2 (K.new b q hb hq (by omega))
      have := (G.tp b hN hb).2
      omega
  · intro b hN hv'
    by_cases hby : b = y
    · subst hby; simp [upd_same]
    · rw [upd_ne hby]
      have hne : G.num b ≠ G.num y := fun h => hby (G.inj _ _ hN u.hy h)
      exact K.was b hN (by omega)
/-- Behind a whole turn the next one begins. -/
theorem Kept.again {v : Nat} (K : Kept G par 0) (hv : v = G.num 0) : Kept G par v where
  k := K.k
  con := K.con
  low := fun b q z hb hq _ h => (K.new b q hb hq (Nat.zero_le _)).trans h
  new := fun b q hb hq _ => K.new b q hb hq (Nat.zero_le _)
  was := fun b hN _ => K.was b hN (Nat.zero_le _)
theorem Kept.init (h0 : par 0 = some 0) (hn : ∀ x, x ≠ 0 → par x = none) : Kept G par (G.num 0) where
  k := ⟨h0, fun x y hx h => (by rw [hn x hx] at h; cases h), fun x hN hs d hd => by
    by_cases hx : x = 0
    · subst hx
      by_cases e : 0 = d
      · subst e; exact .refl _
      · exact absurd (.root e) hd
    · exact absurd (hn x hx) hs⟩
  con := fun b q hb h => by rw [hn b hb] at h; cases h
  low := fun b q z hb h => by rw [hn b hb] at h; cases h
  new := fun b q hb h => by rw [hn b hb] at h; cases h
  was := fun b hN hv => by
    by_cases hb : b = 0
    · subst hb; simp [h0]
    · have := G.top b hN hb; omega
/-- Where nothing turns any more, what is above a block is just what it is not reached without. -/
theorem Inv.exact (k : Inv G par) (hall : ∀ b, G.N b → par b ≠ none) (fix : ∀ b q, G.N b → b ≠ 0 → par b = some q → IsMeet G par b q) {b d : Nat} (hN : G.N b) : Anc par b d ↔ ¬ G.Av d b := by
  refine ⟨fun h hav => ?_, fun h => k.dom b hN (hall b hN) d h⟩
  induction hav with
  | root h0 => exact h0 (k.nz h rfl).symm
  | @step p b r hp hb hd ih =>
    by_cases h0 : b = 0
    · exact hd (by rw [k.nz h h0, h0])
    · cases hq : par b with
      | none => exact hall b hb hq
      | some q => exact ih (G.pin b hb p hp) ((fix b q hb h0 hq d).1 (h.next hd hq) p hp (hall p (G.pin b hb p hp)))
end
end Go.Proofs.Ytknphnmhjmejaaa
/-  The walk of immediate dominators: where two blocks' ways up meet. No conditions. -/
namespace Go.Proofs.Ytknphnmhjmejaaa
set_option linter.unusedVariables false
/-- A block's immediate dominator, as the list bears it. -/
def dlv (par : Par) (x : Nat) : Int := match par x with | some y => (y : Int) | none => -1
def dl (par : Par) (n : Nat) : List Int := (List.range n).map (dlv par)
theorem dl_len (par : Par) (n : Nat) : (dl par n).length = n := by simp [dl]
theorem dl_at {par : Par} {n x : Nat} (hx : x < n) : (dl par n)[x]? = some (dlv par x) := by simp [dl, hx]
theorem dl_set {par : Par} {n x c : Nat} (hx : x < n) : (dl par n).set x (c : Int) = dl (upd par x c) n := by
  apply List.ext_getElem?
  intro i
  by_cases hi : i < n
  · rw [dl_at hi, List.getElem?_set]
    by_cases e : x = i
    · subst e
      rw [if_pos rfl, if_pos (by rw [dl_len]; exact hx)]
      simp [dlv, upd]
    · rw [if_neg e, dl_at hi]
      unfold dlv
      rw [upd_ne (fun h => e h.symm)]
  · rw [List.getElem?_eq_none (by simp [dl_len]; omega), List.getElem?_eq_none (by rw [dl_len]; omega)]
/-- What lies where: the places in postorder, the dominators so far. -/
structure DH (P : List Nat) (n : Nat) (par : Par) (h : Hp) : Prop where
  o1 : h[1]? = some ⟨0, 1, (rks P P.length n).map ai⟩
  o2 : h[2]? = some ⟨0, 1, [.sl 1 0 0 n]⟩
  o3 : h[3]? = some ⟨0, 1, (dl par n).map ai⟩
  o4 : h[4]? = some ⟨0, 1, [.sl 3 0 0 n]⟩
theorem DH.num {P : List Nat} {n : Nat} {par : Par} {h : Hp} (k : DH P n par h) {x : Nat} (hx : x < n) (hP : x ∈ P) {R : Type} (K : Int → Option R) : (ldv h (.ptr 2 0 0) fun v => ixa 1 v x fun p => ldi .i64 h p K) = K (P.idxOf x : Int) := by
  rw [ldv_at k.o2 (by rfl), sl_at hx, ldi_at (n := (P.idxOf x : Int)) k.o1 (by rw [List.getElem?_map, rks_at hx, rk_all hP]; rfl)]
theorem DH.dom {P : List Nat} {n : Nat} {par : Par} {h : Hp} (k : DH P n par h) {x : Nat} (hx : x < n) {R : Type} (K : Int → Option R) : (ldv h (.ptr 4 0 0) fun v => ixa 1 v x fun p => ldi .i64 h p K) = K (dlv par x) := by
  rw [ldv_at k.o4 (by rfl), sl_at hx, ldi_at (n := dlv par x) k.o3 (by rw [List.getElem?_map, dl_at hx]; rfl)]
/-- The graph of what is reached, by its order. -/
structure GrP (G : Gr) (P : List Nat) (n : Nat) : Prop where
  mem : ∀ x, G.N x ↔ x ∈ P
  num : ∀ x, G.num x = P.idxOf x
  lt : ∀ x ∈ P, x < n
  nd : P.Nodup
section
variable {G : Gr} {P : List Nat} {n : Nat} {par : Par} {h : Hp}
theorem GrP.le0 (g : GrP G P n) {x : Nat} (hx : G.N x) : G.num x ≤ G.num 0 := by
  by_cases e : x = 0
  · rw [e]; exact Nat.le_refl _
  · exact Nat.le_of_lt (G.top x hx e)
theorem dlv_some {x y : Nat} (hp : par x = some y) : dlv par x = y := by simp [dlv, hp]
/-- What two have above them is what other two have. -/
def Com (par : Par) (a b a' b' : Nat) : Prop := ∀ e, (Anc par a e ∧ Anc par b e) ↔ (Anc par a' e ∧ Anc par b' e)
def Nd (G : Gr) (par : Par) (a : Nat) : Prop := G.N a ∧ par a ≠ none
theorem Inv.step_up (k : Inv G par) {a b : Nat} (ha : Nd G par a) (hb : Nd G par b) (h : G.num a < G.num b) (hle : G.num b ≤ G.num 0) : ∃ y, par a = some y ∧ Nd G par y ∧ G.num a < G.num y ∧ Com par a b y b := by
  obtain ⟨y, hy⟩ := Option.ne_none_iff_exists'.1 ha.2
  have a0 : a ≠ 0 := by rintro rfl; omega
  obtain ⟨_, h2, h3, h4, _⟩ := k.up a y a0 hy
  refine ⟨y, hy, ⟨h2, h4⟩, h3, fun e => ⟨fun ⟨h5, h6⟩ => ⟨h5.next (fun e' => ?_) hy, h6⟩, fun ⟨h5, h6⟩ => ⟨.step hy h5, h6⟩⟩⟩
  subst e'
  have := k.le' h6
  omega
theorem Com.trans {a b c d e f : Nat} (x : Com par a b c d) (y : Com par c d e f) : Com par a b e f := fun z => (x z).trans (y z)
theorem Com.swap {a b c d : Nat} (x : Com par a b c d) : Com par b a d c := fun z => by
  have := x z
  constructor
  · rintro ⟨h1, h2⟩; exact ((this.1 ⟨h2, h1⟩)).symm
  · rintro ⟨h1, h2⟩; exact ((this.2 ⟨h2, h1⟩)).symm
theorem meet_in1 (g : GrP G P n) (k : Inv G par) (d : DH P n par h) (kk N24 M24 M784 : Nat) {b : Nat} (hb : Nd G par b) (Q : Option (ARes × Hp) → Prop) :
    ∀ (m a N784 : Nat), G.num 0 - G.num a ≤ m → m < N784 → Nd G par a →
      (∀ a', Nd G par a' → Com par a b a' b → G.num b ≤ G.num a' → G.num a ≤ G.num a' → Q (ssa_Doms_c1_p197 kk N24 M24 a' b (.ptr 2 0 0) (.ptr 4 0 0) h)) →
      Q (ssa_Doms_c1_l784 kk N24 M24 N784 M784 a b (.ptr 2 0 0) (.ptr 4 0 0) h) := by
  intro m
  induction m with
  | zero =>
    intro a N784 hm hN ha hq
    obtain ⟨N784, rfl⟩ : ∃ q, N784 = q + 1 := ⟨N784 - 1, by omega⟩
    have h1 := g.le0 ha.1
    have h2 := g.le0 hb.1
    rw [ssa_Doms_c1_l784_eq, d.num (g.lt _ ((g.mem a).1 ha.1)) ((g.mem a).1 ha.1), d.num (g.lt _ ((g.mem b).1 hb.1)) ((g.mem b).1 hb.1), ← g.num, ← g.num, bsp_not (decide_eq_false (by omega))]
    exact hq a ha (fun _ => Iff.rfl) (by omega) (Nat.le_refl _)
  | succ m ih =>
    intro a N784 hm hN ha hq
    obtain ⟨N784, rfl⟩ : ∃ q, N784 = q + 1 := ⟨N784 - 1, by omega⟩
    have h1 := g.le0 ha.1
    have h2 := g.le0 hb.1
    rw [ssa_Doms_c1_l784_eq, d.num (g.lt _ ((g.mem a).1 ha.1)) ((g.mem a).1 ha.1), d.num (g.lt _ ((g.mem b).1 hb.1)) ((g.mem b).1 hb.1), ← g.num, ← g.num]
    by_cases hlt : G.num a < G.num b
    · obtain ⟨y, hy, hyn, hny, hc⟩ := k.step_up ha hb hlt h2
      rw [bsp_of (decide_eq_true (by omega)), d.dom (g.lt _ ((g.mem a).1 ha.1)), dlv_some hy]
      have h3 := g.le0 hyn.1
      exact ih y N784 (by omega) (by omega) hyn fun a' h4 h5 h6 h7 => hq a' h4 (hc.trans h5) h6 (by omega)
    · rw [bsp_not (decide_eq_false (by omega))]
      exact hq a ha (fun _ => Iff.rfl) (by omega) (Nat.le_refl _)
theorem meet_in2 (g : GrP G P n) (k : Inv G par) (d : DH P n par h) (kk N24 M24 M788 : Nat) {a : Nat} (ha : Nd G par a) (Q : Option (ARes × Hp) → Prop) :
    ∀ (m b N788 : Nat), G.num 0 - G.num b ≤ m → m < N788 → Nd G par b →
      (∀ b', Nd G par b' → Com par a b a b' → G.num a ≤ G.num b' → G.num b ≤ G.num b' → Q (ssa_Doms_c1_l24 kk N24 M24 a b' (.ptr 2 0 0) (.ptr 4 0 0) h)) →
      Q (ssa_Doms_c1_l788 kk N24 M24 N788 M788 a b (.ptr 2 0 0) (.ptr 4 0 0) h) := by
  intro m
  induction m with
  | zero =>
    intro b N788 hm hN hb hq
    obtain ⟨N788, rfl⟩ : ∃ q, N788 = q + 1 := ⟨N788 - 1, by omega⟩
    have h1 := g.le0 ha.1
    have h2 := g.le0 hb.1
    rw [ssa_Doms_c1_l788_eq, d.num (g.lt _ ((g.mem b).1 hb.1)) ((g.mem b).1 hb.1), d.num (g.lt _ ((g.mem a).1 ha.1)) ((g.mem a).1 ha.1), ← g.num, ← g.num, bsp_not (decide_eq_false (by omega))]
    exact hq b hb (fun _ => Iff.rfl) (by omega) (Nat.le_refl _)
  | succ m ih =>
    intro b N788 hm hN hb hq
    obtain ⟨N788, rfl⟩ : ∃ q, N788 = q + 1 := ⟨N788 - 1, by omega⟩
    have h1 := g.le0 ha.1
    have h2 := g.le0 hb.1
    rw [ssa_Doms_c1_l788_eq, d.num (g.lt _ ((g.mem b).1 hb.1)) ((g.mem b).1 hb.1), d.num (g.lt _ ((g.mem a).1 ha.1)) ((g.mem a).1 ha.1), ← g.num, ← g.num]
    by_cases hlt : G.num b < G.num a
    · obtain ⟨y, hy, hyn, hny, hc⟩ := k.step_up hb ha hlt h1
      rw [bsp_of (decide_eq_true (by omega)), d.dom (g.lt _ ((g.mem b).1 hb.1)), dlv_some hy]
      have h3 := g.le0 hyn.1
      exact ih y N788 (by omega) (by omega) hyn fun b' h4 h5 h6 h7 => hq b' h4 (hc.swap.trans h5) h6 (by omega)
    · rw [bsp_not (decide_eq_false (by omega))]
      exact hq b hb (fun _ => Iff.rfl) (by omega) (Nat.le_refl _)
/-- What stands above both. -/
def IsM (G : Gr) (par : Par) (a b c : Nat) : Prop := Nd G par c ∧ ∀ e, Anc par c e ↔ (Anc par a e ∧ Anc par b e)
theorem meet_out (g : GrP G P n) (k : Inv G par) (d : DH P n par h) (kk M24 : Nat) (hk : G.num 0 < kk) {a0 b0 : Nat} :
    ∀ (m a b N24 : Nat), (G.num 0 - G.num a) + (G.num 0 - G.num b) ≤ m → m < N24 → Nd G par a → Nd G par b → Com par a0 b0 a b →
      ∃ c, IsM G par a0 b0 c ∧ ssa_Doms_c1_l24 kk N24 M24 a b (.ptr 2 0 0) (.ptr 4 0 0) h = some (.ret (ai c), h) := by
  intro m
  induction m with
  | zero =>
    intro a b N24 hm hN ha hb hc
    obtain ⟨N24, rfl⟩ : ∃ q, N24 = q + 1 := ⟨N24 - 1, by omega⟩
    have h1 := g.le0 ha.1
    have h2 := g.le0 hb.1
    have e : a = b := G.inj a b ha.1 hb.1 (by omega)
    subst e
    rw [ssa_Doms_c1_l24_eq, bsp_not (by simp), ssa_Doms_c1_p7_eq]
    exact ⟨a, ⟨ha, fun e => ⟨fun h => (hc e).2 ⟨h, h⟩, fun h => ((hc e).1 h).1⟩⟩, rfl⟩
  | succ m ih =>
    intro a b N24 hm hN ha hb hc
    obtain ⟨N24, rfl⟩ : ∃ q, N24 = q + 1 := ⟨N24 - 1, by omega⟩
    have h1 := g.le0 ha.1
    have h2 := g.le0 hb.1
    by_cases e : a = b
    · subst e
      rw [ssa_Doms_c1_l24_eq, bsp_not (by simp), ssa_Doms_c1_p7_eq]
      exact ⟨a, ⟨ha, fun e => ⟨fun h => (hc e).2 ⟨h, h⟩, fun h => ((hc e).1 h).1⟩⟩, rfl⟩
    · have hne : G.num a ≠ G.num b := fun h => e (G.inj a b ha.1 hb.1 h)
      rw [ssa_Doms_c1_l24_eq, bsp_of (by simpa using (by omega : ¬ (a : Int) = b))]
      refine meet_in1 g k d kk N24 M24 _ hb (fun o => ∃ c, IsM G par a0 b0 c ∧ o = some (.ret (ai c), h)) (G.num 0) a kk (by omega) hk ha fun a' ha' hc' h3 h4 => ?_
      rw [ssa_Doms_c1_p197_eq]
      refine meet_in2 g k d kk N24 M24 _ ha' (fun o => ∃ c, IsM G par a0 b0 c ∧ o = some (.ret (ai c), h)) (G.num 0) b kk (by omega) hk hb fun b' hb' hc2 h5 h6 => ?_
      have h7 := g.le0 ha'.1
      have h8 := g.le0 hb'.1
      exact ih a' b' N24 (by omega) (by omega) ha' hb' (hc.trans (hc'.trans hc2))
theorem meet_spec (g : GrP G P n) (k : Inv G par) (d : DH P n par h) {a b : Nat} (ha : Nd G par a) (hb : Nd G par b) (hn : n ≤ 4096) :
    ∃ c, IsM G par a b c ∧ G_ssa_Doms_c1 [ai a, ai b, .ptr 2 0 0, .ptr 4 0 0] h = some (.ret (ai c), h) := by
  have h0 : G.num 0 < 4096 := by
    have h1 := (g.mem 0).1 G.n0
    rw [g.num]
    have h2 := List.idxOf_lt_length_iff.2 h1
    have h3 : P.length ≤ n := by
      exact nodup_le n P g.nd g.lt
    omega
  unfold G_ssa_Doms_c1
  rw [ssa_Doms_c1_eq]
  exact meet_out g k d big _ (by rw [big_val]; omega) _ a b big (Nat.le_refl _) (by rw [big_val]; omega) ha hb (fun _ => Iff.rfl)
end
end Go.Proofs.Ytknphnmhjmejaaa
