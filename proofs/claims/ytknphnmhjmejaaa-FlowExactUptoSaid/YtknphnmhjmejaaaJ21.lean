/- Joined texts: Kh, Row. No conditions but those of each. -/
import Derived.Test.YtknphnmhjmejaaaJ19
import Derived.Test.YtknphnmhjmejaaaJ20
import Derived.Test.YtknphnmhjmejaaaRows
import Derived.Test.YtknphnmhjmejaaaJ12
import Derived.Test.YtknphnmhjmejaaaJ6
import Derived.ProofKit
import Derived.OpenShut
import Derived.JoinedCond
import Derived.ChangeBook
import Derived.ChangeBears
import Derived.ChangeStays
import Derived.Deep.Slices
/-  The law FlowExact. No conditions. -/
namespace Go.Proofs.Ytknphnmhjmejaaa
set_option linter.unusedVariables false
theorem LS.shift {h h1 : Hp} {ol vl : Nat} {l : List LR} {outs ds : Nat → Int} {cells : List AV} (k : LS h1 ol vl l outs ds cells) :
    LS (h ++ shH h.length h1) (ol + h.length) vl (l.map fun x => ⟨x.head, x.ob + h.length, x.body⟩) outs ds (shL h.length cells) := by
  have at' : ∀ (i : Nat) (x : LR), (l.map fun x => (⟨x.head, x.ob + h.length, x.body⟩ : LR))[i]? = some x → ∃ y, l[i]? = some y ∧ x = ⟨y.head, y.ob + h.length, y.body⟩ := by
    intro i x hx
    rw [List.getElem?_map] at hx
    cases hy : l[i]? with
    | none => rw [hy] at hx; cases hx
    | some y => rw [hy] at hx; exact ⟨y, rfl, (Option.some.inj hx).symm⟩
  refine ⟨⟨shH_get k.lc.ob, by rw [shL_len, List.length_map]; exact k.lc.len, fun i x hx => ?_, fun i x hx => ?_, fun i x hx => ?_, fun i x hx => ?_⟩, fun x hx => ?_, ?_⟩
  · obtain ⟨y, hy, rfl⟩ := at' i x hx
    rw [shL_get, k.lc.c0 i y hy]; rfl
  · obtain ⟨y, hy, rfl⟩ := at' i x hx
    rw [shL_get, k.lc.c1 i y hy]; rfl
  · obtain ⟨y, hy, rfl⟩ := at' i x hx
    rw [shL_get, k.lc.c2 i y hy]; rfl
  · obtain ⟨y, hy, rfl⟩ := at' i x hx
    rw [shL_get, k.lc.c3 i y hy]; rfl
  · rw [List.mem_map] at hx
    obtain ⟨y, hy, rfl⟩ := hx
    obtain ⟨h1, h2⟩ := k.bo y hy
    have := shH_get (h := h) h2
    rw [shL_map] at this
    exact ⟨fun e => h1 (Nat.add_right_cancel e), this⟩
  · rw [List.pairwise_map]
    exact k.dis.imp fun h e => h (Nat.add_right_cancel e)
theorem same_sh (l : List LR) (n : Nat) : l.map (fun x => (x.head, x.body)) = (l.map fun x => (⟨x.head, x.ob + n, x.body⟩ : LR)).map (fun x => (x.head, x.body)) := by
  rw [List.map_map]
  rfl
section
variable {X : RV} {ds : List Cd} {i : Nat}
/-- The law's end. -/
def EX (z : Option (ARes × Hp)) : Prop := ∃ h, z = some (.ret (.rv (.bool true)), h)
theorem ex_nums {ol vl : Nat} {l : List LR} {cells : List AV} (k N M M3 : Nat) (hl : l.length ≤ 4096) (hs : ∀ x ∈ l, x.body.length < 1000000000) (h3 : ∀ (i : Nat) (x : LR), l[i]? = some x → cells[i * 4 + 3]? = some (.sl x.ob 1 0 x.body.length)) (hne : ∀ x ∈ l, x.ob ≠ ol) (hdis : l.Pairwise fun x y => x.ob ≠ y.ob)
    (outer : ∀ h, EX (w13_FlowExact_p211 k N M (.rv X) i h)) :
    ∀ (m t N3 : Nat) (h : Hp), t + m = l.length → m < N3 → h[ol]? = some ⟨vl, 4, cells⟩ → (∀ (s : Nat) (x : LR), t ≤ s → l[s]? = some x → h[x.ob]? = some ⟨1, 1, x.body.map ai⟩) → EX (w13_FlowExact_l6897660 k N M N3 M3 (.rv X) i (.sl ol vl 0 l.length) t h) := by
  intro m
  induction m with
  | zero =>
    intro t N3 h ht hN ho hb
    obtain ⟨N3, rfl⟩ : ∃ q, N3 = q + 1 := ⟨N3 - 1, by omega⟩
    rw [w13_FlowExact_l6897660_eq, sl_len, bsp_not (decide_eq_false (by omega))]
    exact outer h
  | succ m ih =>
    intro t N3 h ht hN ho hb
    obtain ⟨N3, rfl⟩ : ∃ q, N3 = q + 1 := ⟨N3 - 1, by omega⟩
    have htl : t < l.length := by omega
    have hx := List.getElem?_eq_getElem htl
    have hm := List.getElem_mem htl
    have kj : IntsJ h (.sl l[t].ob 1 0 l[t].body.length) l[t].body := IntsJ.mk (junk := []) (by rw [List.append_nil]; exact hb t _ (Nat.le_refl _) hx)
    obtain ⟨h', e, hlen, hkeep⟩ := Numbers_spec kj (hs _ hm)
    have own' : ∀ q, q ≠ l[t].ob → own (.sl l[t].ob 1 0 l[t].body.length) ≠ some q := by
      intro q hq e
      exact hq (Option.some.inj e).symm
    rw [w13_FlowExact_l6897660_eq, sl_len, bsp_of (decide_eq_true (by omega)), sl_atn htl, pad_ptr, ldv_at ho (h3 t _ hx), callG_ret e, wri_succ (by omega)]
    refine ih (t + 1) N3 h' (by omega) (by omega) ?_ fun s x hs' hx' => ?_
    · rw [hkeep ol (get_lt ho) (own' ol fun e => hne _ hm e.symm)]
      exact ho
    · have hold := hb s x (by omega) hx'
      have hsl := List.getElem?_eq_some_iff.1 hx'
      have := List.pairwise_iff_getElem.1 hdis t s htl hsl.1 (by omega)
      rw [hsl.2] at this
      rw [hkeep x.ob (get_lt hold) (own' x.ob fun e => this e.symm)]
      exact hold
set_option maxRecDepth 20000 in
theorem ex_outer (hX : IsRows 4 IsCd X ds) (k M : Nat) (hk : 1000000000 < k) : ∀ (m i N : Nat) (h : Hp), i + m = ds.length → m < N → EX (w13_FlowExact_l52 k N M (.rv X) i h) := by
  have hs := hX.short
  have fin : ∀ i N h, EX (w13_FlowExact_p209 k N M (.rv X) i false h) := by
    intro i N h
    rw [w13_FlowExact_p209_eq, bsp_not rfl, w13_FlowExact_p7_eq, callP_ret (by rfl) wakes_spec (.inr rfl), asBool_b]
    exact ⟨h, rfl⟩
  intro m
  induction m with
  | zero =>
    intro i N h hi hN
    obtain ⟨N, rfl⟩ : ∃ q, N = q + 1 := ⟨N - 1, by omega⟩
    rw [w13_FlowExact_l52_eq, hX.len, bsp_not (decide_eq_false (by omega))]
    exact fin i N h
  | succ m ih =>
    intro i N h hi hN
    obtain ⟨N, rfl⟩ : ∃ q, N = q + 1 := ⟨N - 1, by omega⟩
    have hil : i < ds.length := by omega
    rw [w13_FlowExact_l52_eq, hX.len, bsp_of (decide_eq_true (by omega))]
    by_cases h10 : i < 10
    · rw [decide_eq_true (by omega : (i : Int) < 10)]
      obtain ⟨p, r, v, b, rest, hcd, hb, hix⟩ := cd_read hX hil
      have next : ∀ h, EX (w13_FlowExact_p211 k N M (.rv X) i h) := by
        intro h
        rw [w13_FlowExact_p211_eq, wri_succ (by omega)]
        exact ih (i + 1) N h (by omega) (by omega)
      have hone := hcd
      obtain ⟨p, r, v, b, e, c1, c2, c3, c4⟩ := hone
      cases e
      have e1 : ∀ K : AV → Hp → Option (ARes × Hp), bsl 4 1 [.rv .nils, .rv .nils, .rv .nils, .rv .nils] [(some (0, 4), .agg [.rv p, .rv r, .rv v, .rv b])] h K = K (.sl h.length 0 0 1) (h ++ [⟨0, 4, [.rv p, .rv r, .rv v, .rv b]⟩]) := fun K => rfl
      have e2 : ∀ (y : AV) (K : AV → Option (ARes × Hp)), vcells y = some [y] → bld [.rv .nils, .rv .nils] [(some (0, 1), y)] K = K (.agg [y, .rv .nils]) := by
        intro y K hy
        simp [bld, fillA, hy, setAt]
      have hu : IsUt [.ros [p, r, v, b] 1, .nils] ⟨[ds[i]], 0⟩ := ⟨_, _, rfl, .mk (n := 4) (Q := IsCd) (l := [ds[i]]) (.cons (c := [p, r, v, b]) rfl hcd .nil) (by simp), .inl ⟨rfl, rfl⟩⟩
      obtain ⟨w, hw⟩ := Weight_spec hu 2000
      have hr : [AV.agg [.sl h.length 0 0 1, .rv .nils], .rv (.int .i64 2000)].mapM (toRV (h ++ [⟨0, 4, [.rv p, .rv r, .rv v, .rv b]⟩]) depthA) = some [.agg [.ros [p, r, v, b] 1, .nils], I 2000] := by
        simp [depthA, toRV]
      by_cases hbig : w > 2000
      · rw [w13_FlowExact_p209_eq, bsp_of rfl, hix, ldg4, e1, e2 _ _ rfl, callP_ret hr hw (.inr rfl), asInt_i, bsp_of (decide_eq_true hbig)]
        exact ⟨_, rfl⟩
      · obtain ⟨cs', hc, hcd'⟩ := CopyCode_spec hcd
        have hone' := hcd'
        obtain ⟨p', r', v', b', e', c1', c2', c3', c4'⟩ := hone'
        subst e'
        obtain ⟨h5, eh5⟩ : ∃ h5 : Hp, h5 = h ++ [(⟨0, 4, [.rv p, .rv r, .rv v, .rv b]⟩ : Ob)] := ⟨_, rfl⟩
        obtain ⟨H0, eH0⟩ : ∃ H0 : Hp, H0 = h5 ++ [(⟨0, 1, [.rv p', .rv r', .rv v', .rv b']⟩ : Ob)] := ⟨_, rfl⟩
        have s1 : ∀ K : Hp → Option (ARes × Hp), stv 4 (h5 ++ [⟨0, 1, [.rv .nils, .rv .nils, .rv .nils, .rv .nils]⟩]) (.ptr h5.length 0 0) (.rv (.agg [p', r', v', b'])) K = K H0 := by
          intro K
          have hg := get_new (h := h5) ⟨0, 1, [.rv .nils, .rv .nils, .rv .nils, .rv .nils]⟩
          simp only [stv, vcells, hg]
          rw [if_pos ⟨by simp, by simp, by simp, by simp only [List.map_cons, List.map_nil, List.all_cons, List.all_nil, c1'.one, c2'.one, c3'.one, c4'.one]; rfl⟩, eH0]
          congr 1
          simp [setAt]
        have g0 : H0[h5.length]? = some ⟨0, 1, [.rv p', .rv r', .rv v', .rv b']⟩ := by rw [eH0]; exact get_new _
        have x0 : ∀ (n : Nat) (y : AV) (e : Int) (K : AV → Option (ARes × Hp)), xtr (shA n (.tuple [y, .rv (I e)])) 0 K = K (shA n y) := by
          intro n y e K
          simp [shA, shL, xtr]
        have x1 : ∀ (n : Nat) (y : AV) (e : Int) (K : AV → Option (ARes × Hp)), xtr (shA n (.tuple [y, .rv (I e)])) 1 K = K (.rv (I e)) := by
          intro n y e K
          simp [shA, shL, xtr]
        have core : ∀ (e : Int) (v5 v7 v9 : AV) (ha hb hc : Hp), O_flow_Post [.agg [p', r', v', b']] = some (.ret (.tuple [v5, .rv (I e)]), ha) → O_flow_Doms_o [.agg [p', r', v', b']] = some (.ret (.tuple [v7, .rv (I e)]), hb) → O_flow_Loops [.agg [p', r', v', b']] = some (.ret (.tuple [v9, .rv (I e)]), hc) →
            F_r13_Flow [.agg [p, r, v, b]] = some (.ret (I e)) → (∀ H1 H2 H3, H1 = H0 ++ shH H0.length ha → H2 = H1 ++ shH H1.length hb → H3 = H2 ++ shH H2.length hc → EX (w13_FlowExact_p107773 k N M (.rv X) i (shA H0.length v5) (shA H1.length v7) (shA H2.length v9) e false H3)) → EX (w13_FlowExact_p209 k N M (.rv X) i true h) := by
          intro e v5 v7 v9 ha hb' hc' o5 o7 o9 hfl out
          obtain ⟨H1, eH1⟩ : ∃ H1, H1 = H0 ++ shH H0.length ha := ⟨_, rfl⟩
          obtain ⟨H2, eH2⟩ : ∃ H2, H2 = H1 ++ shH H1.length hb' := ⟨_, rfl⟩
          obtain ⟨H3, eH3⟩ : ∃ H3, H3 = H2 ++ shH H2.length hc' := ⟨_, rfl⟩
          have g1 : H1[h5.length]? = some ⟨0, 1, [.rv p', .rv r', .rv v', .rv b']⟩ := by rw [eH1]; exact get_old g0 _
          have g2 : H2[h5.length]? = some ⟨0, 1, [.rv p', .rv r', .rv v', .rv b']⟩ := by rw [eH2]; exact get_old g1 _
          have g3 : H3[h5.length]? = some ⟨0, 1, [.rv p', .rv r', .rv v', .rv b']⟩ := by rw [eH3]; exact get_old g2 _
          have o5' := ownG_ret (h := H0) (args := [.agg [.rv p', .rv r', .rv v', .rv b']]) (by rfl) (by simp [toRV, depthA]) o5
          have o7' := ownG_ret (h := H1) (args := [.agg [.rv p', .rv r', .rv v', .rv b']]) (by rfl) (by simp [toRV, depthA]) o7
          have o9' := ownG_ret (h := H2) (args := [.agg [.rv p', .rv r', .rv v', .rv b']]) (by rfl) (by simp [toRV, depthA]) o9
          rw [← eH1] at o5'
          rw [← eH2] at o7'
          rw [← eH3] at o9'
          rw [w13_FlowExact_p209_eq, bsp_of rfl, hix, ldg4, e1, e2 _ _ rfl, callP_ret hr hw (.inr rfl), asInt_i, bsp_not (decide_eq_false hbig), hix, ldg4, callP_ret (by simp [toRV, depthA]) hc (.inl rfl), ← eh5, nwc_some, s1,
            ldg_at (n := 4) g0 rfl, callG_ret o5', x0, x1, asInt_i, ldg_at (n := 4) g1 rfl, callG_ret o7', x0, x1, asInt_i, ldg_at (n := 4) g2 rfl, callG_ret o9', x0, x1, asInt_i,
            hix, ldg4, callP_ret (by simp [toRV, depthA]) hfl (.inr rfl), asInt_i, callP_ret (by simp [toRV, depthA]) (num_spec e) (.inr rfl), asInt_i, bsp_not (by simp), callP_ret (by simp [toRV, depthA]) (num_spec e) (.inr rfl), asInt_i, bsp_not (by simp), callP_ret (by simp [toRV, depthA]) (num_spec e) (.inr rfl), asInt_i, bsp_not (by simp),
            ldg_at (n := 4) g3 rfl, hix, ldg4, callP_ret (by simp [toRV, depthA]) (EqCode_true hcd' hcd) (.inr rfl), asBool_b, Bool.not_true]
          exact out H1 H2 H3 eH1 eH2 eH3
        have bad : ∀ e : Int, e ≠ 0 → F_ssa_Flow [.agg [p', r', v', b']] = some (.ret (I e)) → F_r13_Flow [.agg [p, r, v, b]] = some (.ret (I e)) → EX (w13_FlowExact_p209 k N M (.rv X) i true h) := by
          intro e he hF hfl
          obtain ⟨ha, o5⟩ := postO_bad hcd' e he hF
          obtain ⟨hb', o7⟩ := domsO_bad hcd' e he hF
          obtain ⟨hc', o9⟩ := loopsO_bad hcd' e he hF
          refine core e _ _ _ _ _ _ o5 o7 o9 hfl fun H1 H2 H3 _ _ _ => ?_
          have en : ∀ n : Nat, shA n (.rv .nils) = .rv .nils := fun n => by simp [shA]
          have el : ∀ K : Int → Option (ARes × Hp), lna (.rv .nils) K = K 0 := fun K => rfl
          rw [en, en, en, w13_FlowExact_p107773_eq, bsp_not rfl, bsp_of (by simpa using he), el, el, el, bsp_not (by rfl)]
          exact next H3
        by_cases hf : formOk ds[i].blocks = true
        · by_cases hq : FlowOk ds[i].blocks
          · have hl : 0 < ds[i].blocks.length ∧ ds[i].blocks.length ≤ 4096 := by
              simp only [formOk, Bool.and_eq_true, decide_eq_true_eq] at hf
              exact hf.1
            obtain ⟨P, hP⟩ := IsPost.ex (formOk_succs hf) hl.1
            have g := grP hf hq hP
            have hple : P.length ≤ ds[i].blocks.length := nodup_le _ P g.nd g.lt
            obtain ⟨v5, ha, o5, k5⟩ := Post_run hcd' hf hq hP
            obtain ⟨par7, v7, hb', kd7, o7, k7⟩ := domsO_run hcd' hf hq hP
            obtain ⟨par9, kd9, l, dep, hc', v9, x9, o9, up, hdep, _, _, hv9⟩ := flowLoops_run hcd' hf hq hP
            have o5' : O_flow_Post [.agg [p', r', v', b']] = some (.ret (.tuple [v5, .rv (I 0)]), ha) := o5
            have o9' : O_flow_Loops [.agg [p', r', v', b']] = some (.ret (.tuple [v9, .rv (I 0)]), hc') := o9
            refine core 0 v5 v7 v9 ha hb' hc' o5' o7 o9' ((Flow_spec hcd).2.1 hf hq) fun H1 H2 H3 eH1 eH2 eH3 => ?_
            have j5 : IntsJ H1 (shA H0.length v5) (P.map Int.ofNat) := by rw [eH1]; exact k5.shift
            have j7 : IntsJ H2 (shA H1.length v7) (dvs par7 ds[i].blocks.length) := by rw [eH2]; exact k7.shift
            have j5b : IntsJ H3 (shA H0.length v5) (P.map Int.ofNat) := j5.mono fun q hq => by
              have := j5.ownlt hq
              rw [eH3, List.getElem?_append_left (by rw [eH2, List.length_append]; omega), eH2, List.getElem?_append_left this]
            have j7b : IntsJ H3 (shA H1.length v7) (dvs par7 ds[i].blocks.length) := j7.mono fun q hq => by
              have := j7.ownlt hq
              rw [eH3, List.getElem?_append_left this]
            have l5 : (P.map Int.ofNat).length < 1000000000 := by rw [List.length_map]; omega
            have l7 : (dvs par7 ds[i].blocks.length).length < 1000000000 := by rw [dvs_len]; omega
            obtain ⟨z5, t5, hz5⟩ := j5b.done l5
            obtain ⟨z7, t7, hz7⟩ := j7b.done l7
            obtain ⟨y5, f5, hy5⟩ := refPost_spec hcd hf hP
            obtain ⟨y7, f7, hy7⟩ := refDoms_spec hcd hf hq hP kd7
            obtain ⟨y9, f9, hy9⟩ := refLoops_spec hcd hf hq hP kd9 up hdep
            have hll := up.len
            have hsb : ∀ x ∈ l, x.body.length < 1000000000 := by
              intro x hx
              have := sorted_len (n := ds[i].blocks.length) (up.ok x hx).1.sorted fun y hy => by
                obtain ⟨z, rfl, _, h, _⟩ := up.body_lt kd9 hx hy
                omega
              omega
            -- the loops in the law's own heap
            have loops : ∃ z9, toRV H3 depthA (shA H2.length v9) = some z9 ∧ IsRows 4 IsLp z9 (lpsOf l dep) := by
              rcases hv9 with ⟨rfl, rfl⟩ | ⟨ol, vl, cells, rfl, ls⟩
              · exact ⟨.nils, by simp [shA, toRV, depthA], .nil⟩
              · have ls' := ls.shift (h := H2)
                rw [← eH3] at ls'
                rw [same_lps (same_sh l H2.length) dep]
                have hll' : (l.map fun x => (⟨x.head, x.ob + H2.length, x.body⟩ : LR)).length = l.length := List.length_map ..
                have := loops_rv (l := l.map fun x => (⟨x.head, x.ob + H2.length, x.body⟩ : LR)) 8 (by omega) (fun x hx => by
                  rw [List.mem_map] at hx
                  obtain ⟨y, hy, rfl⟩ := hx
                  exact hsb y hy) dep (by rw [← same_fin (same_sh l H2.length), hll']; exact ls')
                rw [hll'] at this
                exact this
            obtain ⟨z9, t9, hz9⟩ := loops
            have m5 : [shA H0.length v5, AV.rv y5].mapM (toRV H3 depthA) = some [z5, y5] := by simp only [List.mapM_cons, List.mapM_nil, t5]; rfl
            have m7 : [shA H1.length v7, AV.rv y7].mapM (toRV H3 depthA) = some [z7, y7] := by simp only [List.mapM_cons, List.mapM_nil, t7]; rfl
            have m9 : [shA H2.length v9, AV.rv y9].mapM (toRV H3 depthA) = some [z9, y9] := by simp only [List.mapM_cons, List.mapM_nil, t9]; rfl
            obtain ⟨H4, n5, len4, keep4⟩ := Numbers_spec j5b l5
            have j7c : IntsJ H4 (shA H1.length v7) (dvs par7 ds[i].blocks.length) := j7b.mono fun q hq => keep4 q (j7b.ownlt hq) fun e => by
              have h1 := own_sh k7 q hq
              have h2 := j5.ownlt e
              omega
            obtain ⟨H5, n7, len5, keep5⟩ := Numbers_spec j7c l7
            have keep : ∀ q, H2.length ≤ q → q < H3.length → H5[q]? = H3[q]? := by
              intro q hq1 hq2
              have h12 : H1.length ≤ H2.length := by rw [eH2, List.length_append]; omega
              rw [keep5 q (by omega) fun e => by have := j7.ownlt e; omega, keep4 q hq2 fun e => by have := j5.ownlt e; omega]
            rw [w13_FlowExact_p107773_eq, bsp_not rfl, bsp_not (by rfl), hix, ldg4, callP_ret (by simp [toRV, depthA]) f5 (.inl rfl), callP_ret m5 (EqNum_true hz5 hy5) (.inr rfl), asBool_b, bsp_not (by rfl),
              hix, ldg4, callP_ret (by simp [toRV, depthA]) f7 (.inl rfl), callP_ret m7 (EqNum_true hz7 hy7) (.inr rfl), asBool_b, bsp_not (by rfl),
              hix, ldg4, callP_ret (by simp [toRV, depthA]) f9 (.inl rfl), callP_ret m9 (EqLoops_true hz9 hy9) (.inr rfl), asBool_b, Bool.not_true,
              w13_FlowExact_p431101_eq, bsp_not rfl, callG_ret n5, callG_ret n7]
            rcases hv9 with ⟨rfl, rfl⟩ | ⟨ol, vl, cells, rfl, ls⟩
            · obtain ⟨k, rfl⟩ : ∃ q, k = q + 1 := ⟨k - 1, by omega⟩
              have en : ∀ n : Nat, shA n (.rv .nils) = .rv .nils := fun n => by simp [shA]
              have el : ∀ K : Int → Option (ARes × Hp), lna (.rv .nils) K = K 0 := fun K => rfl
              rw [en, w13_FlowExact_l6897660_eq, el, bsp_not (by rfl)]
              exact next H5
            · have ls' := ls.shift (h := H2)
              rw [← eH3] at ls'
              have hll' : (l.map fun x => (⟨x.head, x.ob + H2.length, x.body⟩ : LR)).length = l.length := List.length_map ..
              have es : shA H2.length (.sl ol vl 0 l.length) = .sl (ol + H2.length) vl 0 (l.map fun x => (⟨x.head, x.ob + H2.length, x.body⟩ : LR)).length := by
                rw [hll']
                simp [shA]
              rw [es, show ((0 : Int)) = ((0 : Nat) : Int) from rfl]
              refine ex_nums (l := l.map fun x => (⟨x.head, x.ob + H2.length, x.body⟩ : LR)) k N M _ (by omega) (fun x hx => ?_) ls'.lc.c3 (fun x hx => (ls'.bo x hx).1) ls'.dis next l.length 0 k H5 (by omega) (by omega) ?_ fun s x _ hx => ?_
              · rw [List.mem_map] at hx
                obtain ⟨y, hy, rfl⟩ := hx
                exact hsb y hy
              · rw [keep _ (by omega) (get_lt ls'.lc.ob)]
                exact ls'.lc.ob
              · have hb2 := (ls'.bo x (List.mem_of_getElem? hx)).2
                have hge : H2.length ≤ x.ob := by
                  rw [List.getElem?_map] at hx
                  cases hy : l[s]? with
                  | none => rw [hy] at hx; cases hx
                  | some y =>
                    rw [hy] at hx
                    cases hx
                    show H2.length ≤ y.ob + H2.length
                    omega
                rw [keep _ hge (get_lt hb2)]
                exact hb2
          · exact bad 131 (by omega) ((ssaFlow_spec hcd').2.2 hf hq) ((Flow_spec hcd).2.2 hf hq)
        · exact bad 130 (by omega) ((ssaFlow_spec hcd').1 (by simpa using hf)) ((Flow_spec hcd).1 (by simpa using hf))
    · rw [decide_eq_false (by omega : ¬ (i : Int) < 10)]
      exact fin i N h
end
theorem FlowExact_spec {X : RV} {ds : List Cd} (hX : IsRows 4 IsCd X ds) : F_w13_FlowExact [X] = some (.ret (.bool true)) := by
  have hs := hX.short
  obtain ⟨h, e⟩ := ex_outer hX big ([] : Hp).length (by rw [big_val]; omega) ds.length 0 big [] (by omega) (by rw [big_val]; omega)
  unfold F_w13_FlowExact
  rw [List.map_cons, List.map_nil, w13_FlowExact_eq, show ((0 : Int)) = ((0 : Nat) : Int) from rfl, e]
  simp [pureR, toRV, depthA]
end Go.Proofs.Ytknphnmhjmejaaa
/-  The rows' frame: what is read of the arguments as values held still; a law's row out of its function's answer. No conditions. -/
namespace Go.Proofs.Ytknphnmhjmejaaa
set_option linter.unusedVariables false
open Go.ChangeShapes Go.WideShapes Go.ChangeAt Go.RowKit Go.Deep
/-! ### The bound -/
theorem bulk_one {H : Type} (d : DataW H) : 1 ≤ Rows.uptoBulk d := by
  cases d with
  | lit l => cases l <;> simp [Rows.uptoBulk]
  | nil => simp [Rows.uptoBulk]
  | ptr d => simp [Rows.uptoBulk]
  | slice elems spare => simp [Rows.uptoBulk]
  | agg parts => simp [Rows.uptoBulk]
  | iface t d => simp [Rows.uptoBulk]
  | map entries => simp [Rows.uptoBulk]
  | held h => simp [Rows.uptoBulk]
theorem bulk_part {H : Type} {d : DataW H} {l : List (DataW H)} (h : d ∈ l) : Rows.uptoBulk d ≤ Rows.uptoBulkAll l := by
  induction l with
  | nil => cases h
  | cons x r ih =>
    simp only [Rows.uptoBulkAll]
    cases List.mem_cons.1 h with
    | inl e => subst e; omega
    | inr e => have := ih e; omega
theorem bulk_len {H : Type} (l : List (DataW H)) : l.length ≤ Rows.uptoBulkAll l := by
  induction l with
  | nil => simp [Rows.uptoBulkAll]
  | cons x r ih => have := bulk_one x; simp only [Rows.uptoBulkAll, List.length_cons]; omega
theorem bulk_slice {H : Type} (elems spare : List (DataW H)) : Rows.uptoBulkAll elems ≤ Rows.uptoBulk (.slice elems spare) := by
  simp only [Rows.uptoBulk]; omega
theorem bulk_agg {H : Type} (ps : List (DataW H)) : Rows.uptoBulkAll ps ≤ Rows.uptoBulk (.agg ps) := by
  simp only [Rows.uptoBulk]; omega
/-! ### Reading -/
section
variable {H : Type} {enc : TypeId × Value → H} {P : Program} {w : World}
/-- All that is there, held still. -/
abbrev MW (w : World) : Mm := fun a => w.cell? a
abbrev trodW (enc : TypeId × Value → H) (P : Program) (w : World) (n : Nat) (t : TypeId) (cs : List Value) (x : DataW H × List MemPlace) : Prop := DataW.trod enc P w 0 (fun _ => true) true n t cs = some x
/-- A type's row of cells is read as something. -/
def Reads (enc : TypeId × Value → H) (P : Program) (w : World) (t : TypeId) {α : Type} (Q : List RV → α → Prop) : Prop :=
  ∀ (n : Nat) (cs : List Value) (x : DataW H × List MemPlace), trodW enc P w n t cs x → Rows.uptoBulk x.1 ≤ 1048576 → ∃ (c : List RV) (a : α), c.length = cs.length ∧ Q c a ∧ VRs (MW w) c (fun i => cs[i]?)
def One {α : Type} (Q : RV → α → Prop) : List RV → α → Prop := fun c a => ∃ x, c = [x] ∧ Q x a
theorem VRs_one {M : Mm} {x : RV} {v : Value} (h : VR M x v) : VRs M [x] (fun i => [v][i]?) := by
  simp only [VRs, and_true]
  exact ⟨v, rfl, h⟩
theorem reads_int {t : TypeId} {k : IntKind} (ht : P.underlying t = some (.int k)) : Reads enc P w t (One fun (x : RV) (n : Int) => x = .int k n) := by
  intro n cs x hx hb
  obtain ⟨m, rfl, rfl, _⟩ := DataW.trod_int ht hx
  exact ⟨[.int k m], m, rfl, ⟨_, rfl, rfl⟩, VRs_one (by simp [VR])⟩
theorem VRs_append {M : Mm} {a b : List RV} {xs ys : List Value} (ha : a.length = xs.length) (h1 : VRs M a (fun i => xs[i]?)) (h2 : VRs M b (fun i => ys[i]?)) : VRs M (a ++ b) (fun i => (xs ++ ys)[i]?) := by
  refine VRs_iff.2 fun i x hx => ?_
  by_cases hi : i < a.length
  · rw [List.getElem?_append_left hi] at hx
    obtain ⟨v, hv, hV⟩ := VRs_iff.1 h1 _ _ hx
    exact ⟨v, by rw [List.getElem?_append_left (by omega)]; exact hv, hV⟩
  · rw [List.getElem?_append_right (by omega)] at hx
    obtain ⟨v, hv, hV⟩ := VRs_iff.1 h2 _ _ hx
    exact ⟨v, by rw [List.getElem?_append_right (by omega), ← ha]; exact hv, hV⟩
theorem rows_of {α : Type} {n : Nat} {Q : List RV → α → Prop} {a : Addr} : ∀ (len k : Nat), (∀ i, i < len → ∃ (c : List RV) (x : α), c.length = n ∧ Q c x ∧ VRs (MW w) c (fun j => w.cell? (a.add ((k + i) * n + j)))) →
    ∃ (cs : List RV) (xs : List α), cs.length = len * n ∧ xs.length = len ∧ Rows n Q cs xs ∧ VRs (MW w) cs (fun j => w.cell? (a.add (k * n + j)))
  | 0, k, _ => ⟨[], [], by simp, rfl, .nil, by simp [VRs]⟩
  | len + 1, k, h => by
    obtain ⟨c, x, hc, hq, hv⟩ := h 0 (by omega)
    obtain ⟨cs, xs, hcs, hxs, hr, hvs⟩ := rows_of len (k + 1) (fun i hi => by
      have := h (i + 1) (by omega)
      rwa [show k + (i + 1) = k + 1 + i by omega] at this)
    refine ⟨c ++ cs, x :: xs, by rw [List.length_append, hc, hcs, Nat.succ_mul]; omega, by simp [hxs], .cons hc hq hr, VRs_iff.2 fun i y hy => ?_⟩
    by_cases hi : i < c.length
    · rw [List.getElem?_append_left hi] at hy
      obtain ⟨v, hv', hV⟩ := VRs_iff.1 hv _ _ hy
      exact ⟨v, by simpa using hv', hV⟩
    · rw [List.getElem?_append_right (by omega)] at hy
      obtain ⟨v, hv', hV⟩ := VRs_iff.1 hvs _ _ hy
      refine ⟨v, ?_, hV⟩
      rw [hc] at hv'
      rw [← hv']
      congr 2
      rw [Nat.succ_mul]
      omega
theorem reads_rows {t e : TypeId} {n : Nat} (ht : P.underlying t = some (.slice e)) (hn : P.cellsOf e = n) {α : Type} {Q : List RV → α → Prop} (hQ : Reads enc P w e Q) : Reads enc P w t (One (IsRows n Q)) := by
  intro m cs x hx hb
  rcases open_slice ht hx with ⟨rfl, rfl⟩ | ⟨a, len, cap, k, m', D, Pl, rfl, _, hl, _, hk, rfl, hel⟩
  · exact ⟨[.nils], [], rfl, ⟨_, rfl, .nil⟩, VRs_one (by simp [VR])⟩
  · have hkc : len ≤ k := by rw [hk]; simpa using hl
    have hbulk : ∀ i, i < len → Rows.uptoBulk (D i) ≤ 1048576 := by
      intro i hi
      have h1 : D i ∈ (List.range len).map D := List.mem_map.2 ⟨i, List.mem_range.2 hi, rfl⟩
      have h2 := bulk_part h1
      have h3 := bulk_slice ((List.range len).map D) ((List.range (k - len)).map fun j => D (len + j))
      simp only at hb
      omega
    have hlen : len ≤ 1048576 := by
      have h2 := bulk_len ((List.range len).map D)
      have h3 := bulk_slice ((List.range len).map D) ((List.range (k - len)).map fun j => D (len + j))
      simp only [List.length_map, List.length_range] at h2
      simp only at hb
      omega
    obtain ⟨cs, xs, hcs, hxs, hr, hv⟩ := rows_of (w := w) (n := n) (Q := Q) (a := a) len 0 (fun i hi => by
      obtain ⟨cs', h1, h2⟩ := hel i (by omega)
      obtain ⟨_, h3, h4⟩ := World.cells?_some h1
      obtain ⟨c, y, h5, h6, h7⟩ := hQ _ _ _ h2 (hbulk i hi)
      refine ⟨c, y, by omega, h6, VRs_iff.2 fun j z hz => ?_⟩
      obtain ⟨v, hv, hV⟩ := VRs_iff.1 h7 _ _ hz
      have hj := (List.getElem?_eq_some_iff.1 hv).1
      refine ⟨v, ?_, hV⟩
      rw [← hv, ← h4 j (by omega), hn, Go.Proofs.Ytknphnmhjmejaaa.add_add, Nat.zero_add])
    subst hxs
    refine ⟨[.ros cs xs.length], xs, rfl, ⟨_, rfl, .mk hr (by omega)⟩, VRs_one ?_⟩
    simp only [VR]
    refine ⟨a, cap, rfl, hl, ?_⟩
    simpa using hv
theorem reads_ints {t e : TypeId} (ht : P.underlying t = some (.slice e)) (he : P.underlying e = some (.int .i64)) (hn : P.cellsOf e = 1) : Reads enc P w t (One IsInts) := by
  intro m cs x hx hb
  obtain ⟨c, a, h1, ⟨X, rfl, h2⟩, h3⟩ := reads_rows ht hn (reads_int he) m cs x hx hb
  refine ⟨[X], a, h1, ⟨X, rfl, ?_⟩, h3⟩
  cases h2 with
  | nil => exact .nil
  | @mk cs _ r hl =>
    have : cs = ints a := by
      clear h3 hl h1
      induction r with
      | nil => rfl
      | cons hc q r ih =>
        obtain ⟨x, rfl, rfl⟩ := q
        rw [ih]
        rfl
    rw [this]
    exact .mk a hl
end
/-! ### Fields -/
section
variable {H : Type} {enc : TypeId × Value → H} {P : Program} {w : World}
/-- A struct's fields, one behind the other. -/
theorem fields_read {t : TypeId} {fs : Array Field} (ht : P.underlying t = some (.struct fs)) {n : Nat} {cs : List Value} {x : DataW H × List MemPlace} (h : trodW enc P w n t cs x) (hb : Rows.uptoBulk x.1 ≤ 1048576) : cs.length = P.cellsOf t ∧
    ∀ (i : Nat) (f : Field), fs[i]? = some f → ∃ m y, trodW enc P w m f.type ((cs.drop f.offset).take (P.cellsOf f.type)) y ∧ Rows.uptoBulk y.1 ≤ 1048576 := by
  obtain ⟨xs, k, rfl, rfl, hl, hxs, hf⟩ := DataW.trod_struct ht h
  refine ⟨hl, fun i f hi => ?_⟩
  have h1 := hf i f hi
  have hlt : i < xs.length := by rw [hxs]; exact (Array.getElem?_eq_some_iff.1 hi).1
  rw [List.getElem?_eq_getElem hlt] at h1
  refine ⟨k, xs[i], h1, ?_⟩
  have h2 : xs[i].1 ∈ xs.map (·.1) := List.mem_map.2 ⟨xs[i], List.getElem_mem hlt, rfl⟩
  have h3 := bulk_part h2
  have h4 := bulk_agg (xs.map (·.1))
  simp only at hb
  omega
/-- One cell, as one field reads it. -/
theorem cell_read {t : TypeId} {α : Type} {Q : RV → α → Prop} (hQ : Reads enc P w t (One Q)) {m : Nat} {cs : List Value} {off : Nat} {y : DataW H × List MemPlace} (h : trodW enc P w m t ((cs.drop off).take 1) y) (hb : Rows.uptoBulk y.1 ≤ 1048576) :
    ∃ v X a, cs[off]? = some v ∧ Q X a ∧ VR (MW w) X v := by
  obtain ⟨c, a, h1, ⟨X, rfl, h2⟩, h3⟩ := hQ _ _ _ h hb
  simp only [VRs, and_true] at h3
  obtain ⟨v, hv, hV⟩ := h3
  refine ⟨v, X, a, ?_, h2, hV⟩
  have := hv
  rw [List.getElem?_take] at this
  simpa using this
theorem VRs_list {M : Mm} : ∀ (c : List RV) (cs : List Value) (k : Nat), (∀ i x, c[i]? = some x → ∃ v, cs[k + i]? = some v ∧ VR M x v) → VRs M c (fun i => cs[k + i]?) := fun c cs k h => VRs_iff.2 h
end
section
variable {H : Type} {enc : TypeId × Value → H} {w : World}
theorem u_int : Try.prog.underlying 3 = some (.int .i64) := by kernel_rfl
theorem u_int64 : Try.prog.underlying 2 = some (.int .i64) := by kernel_rfl
theorem u_bool : Try.prog.underlying 4 = some .bool := by kernel_rfl
theorem u_ints : Try.prog.underlying 24 = some (.slice 3) := by kernel_rfl
theorem u_values : Try.prog.underlying 25 = some (.slice 63) := by kernel_rfl
theorem u_blocks : Try.prog.underlying 26 = some (.slice 40) := by kernel_rfl
theorem u_codes : Try.prog.underlying 22 = some (.slice 28) := by kernel_rfl
theorem c_int : Try.prog.cellsOf 3 = 1 := by kernel_rfl
theorem c_int64 : Try.prog.cellsOf 2 = 1 := by kernel_rfl
theorem c_ints : Try.prog.cellsOf 24 = 1 := by kernel_rfl
theorem c_values : Try.prog.cellsOf 25 = 1 := by kernel_rfl
theorem c_blocks : Try.prog.cellsOf 26 = 1 := by kernel_rfl
theorem c_value : Try.prog.cellsOf 63 = 5 := by kernel_rfl
theorem c_block : Try.prog.cellsOf 40 = 6 := by kernel_rfl
theorem c_code : Try.prog.cellsOf 28 = 4 := by kernel_rfl
noncomputable def fsOf (t : TypeId) : Array Field :=
  match Try.prog.underlying t with
  | some (.struct fs) => fs
  | _ => #[]
theorem u_value : Try.prog.underlying 63 = some (.struct (fsOf 63)) := by kernel_rfl
theorem u_block : Try.prog.underlying 40 = some (.struct (fsOf 40)) := by kernel_rfl
theorem u_code : Try.prog.underlying 28 = some (.struct (fsOf 28)) := by kernel_rfl
/-- A field's type and place. -/
noncomputable def fld (t : TypeId) (i : Nat) : Option (TypeId × Nat) := ((fsOf t)[i]?).map fun f => (f.type, f.offset)
theorem fld_some {t : TypeId} {i : Nat} {ft : TypeId} {off : Nat} (h : fld t i = some (ft, off)) : ∃ f, (fsOf t)[i]? = some f ∧ f.type = ft ∧ f.offset = off := by
  unfold fld at h
  rw [Option.map_eq_some_iff] at h
  obtain ⟨f, h1, h2⟩ := h
  cases h2
  exact ⟨f, h1, rfl, rfl⟩
theorem field_read {t : TypeId} (ht : Try.prog.underlying t = some (.struct (fsOf t))) {n : Nat} {cs : List Value} {x : DataW H × List MemPlace} (h : trodW enc Try.prog w n t cs x) (hb : Rows.uptoBulk x.1 ≤ 1048576) {i : Nat} {ft : TypeId} {off : Nat} (hf : fld t i = some (ft, off))
    (hc : Try.prog.cellsOf ft = 1) {α : Type} {Q : RV → α → Prop} (hQ : Reads enc Try.prog w ft (One Q)) : ∃ v X a, cs[off]? = some v ∧ Q X a ∧ VR (MW w) X v := by
  obtain ⟨f, h1, rfl, rfl⟩ := fld_some hf
  obtain ⟨m, y, h2, h3⟩ := (fields_read ht h hb).2 i f h1
  rw [hc] at h2
  exact cell_read hQ h2 h3
theorem r_ints : Reads enc Try.prog w 24 (One IsInts) := reads_ints u_ints u_int c_int
theorem reads_value : Reads enc Try.prog w 63 IsVl := by
  intro n cs x hx hb
  have hl : cs.length = 5 := by rw [(fields_read u_value hx hb).1, c_value]
  obtain ⟨v0, X0, a0, h0, rfl, k0⟩ := field_read u_value hx hb (i := 0) (ft := 3) (off := 0) (by kernel_rfl) c_int (reads_int u_int)
  obtain ⟨v1, X1, a1, h1, rfl, k1⟩ := field_read u_value hx hb (i := 1) (ft := 3) (off := 1) (by kernel_rfl) c_int (reads_int u_int)
  obtain ⟨v2, X2, a2, h2, q2, k2⟩ := field_read u_value hx hb (i := 2) (ft := 24) (off := 2) (by kernel_rfl) c_ints r_ints
  obtain ⟨v3, X3, a3, h3, rfl, k3⟩ := field_read u_value hx hb (i := 3) (ft := 2) (off := 3) (by kernel_rfl) c_int64 (reads_int u_int64)
  obtain ⟨v4, X4, a4, h4, rfl, k4⟩ := field_read u_value hx hb (i := 4) (ft := 3) (off := 4) (by kernel_rfl) c_int (reads_int u_int)
  refine ⟨[I a0, I a1, X2, I a3, I a4], ⟨a0, a1, a2, a3, a4⟩, by simp [hl], ⟨X2, rfl, q2⟩, ?_⟩
  simp only [VRs, and_true]
  exact ⟨⟨v0, h0, k0⟩, ⟨v1, h1, k1⟩, ⟨v2, h2, k2⟩, ⟨v3, h3, k3⟩, ⟨v4, h4, k4⟩⟩
theorem reads_block : Reads enc Try.prog w 40 IsBlk := by
  intro n cs x hx hb
  have hl : cs.length = 6 := by rw [(fields_read u_block hx hb).1, c_block]
  obtain ⟨v0, X0, a0, h0, rfl, k0⟩ := field_read u_block hx hb (i := 0) (ft := 3) (off := 0) (by kernel_rfl) c_int (reads_int u_int)
  obtain ⟨v1, X1, a1, h1, rfl, k1⟩ := field_read u_block hx hb (i := 1) (ft := 2) (off := 1) (by kernel_rfl) c_int64 (reads_int u_int64)
  obtain ⟨v2, X2, a2, h2, q2, k2⟩ := field_read u_block hx hb (i := 2) (ft := 24) (off := 2) (by kernel_rfl) c_ints r_ints
  obtain ⟨v3, X3, a3, h3, q3, k3⟩ := field_read u_block hx hb (i := 3) (ft := 24) (off := 3) (by kernel_rfl) c_ints r_ints
  obtain ⟨v4, X4, a4, h4, q4, k4⟩ := field_read u_block hx hb (i := 4) (ft := 24) (off := 4) (by kernel_rfl) c_ints r_ints
  obtain ⟨v5, X5, a5, h5, q5, k5⟩ := field_read u_block hx hb (i := 5) (ft := 24) (off := 5) (by kernel_rfl) c_ints r_ints
  refine ⟨[I a0, I a1, X2, X3, X4, X5], ⟨a0, a1, a2, a3, a4, a5⟩, by simp [hl], ⟨X2, X3, X4, X5, rfl, q2, q3, q4, q5⟩, ?_⟩
  simp only [VRs, and_true]
  exact ⟨⟨v0, h0, k0⟩, ⟨v1, h1, k1⟩, ⟨v2, h2, k2⟩, ⟨v3, h3, k3⟩, ⟨v4, h4, k4⟩, ⟨v5, h5, k5⟩⟩
theorem reads_code : Reads enc Try.prog w 28 IsCd := by
  intro n cs x hx hb
  have hl : cs.length = 4 := by rw [(fields_read u_code hx hb).1, c_code]
  obtain ⟨v0, X0, a0, h0, q0, k0⟩ := field_read u_code hx hb (i := 0) (ft := 24) (off := 0) (by kernel_rfl) c_ints r_ints
  obtain ⟨v1, X1, a1, h1, q1, k1⟩ := field_read u_code hx hb (i := 1) (ft := 24) (off := 1) (by kernel_rfl) c_ints r_ints
  obtain ⟨v2, X2, a2, h2, q2, k2⟩ := field_read u_code hx hb (i := 2) (ft := 25) (off := 2) (by kernel_rfl) c_values (reads_rows u_values c_value reads_value)
  obtain ⟨v3, X3, a3, h3, q3, k3⟩ := field_read u_code hx hb (i := 3) (ft := 26) (off := 3) (by kernel_rfl) c_blocks (reads_rows u_blocks c_block reads_block)
  refine ⟨[X0, X1, X2, X3], ⟨a0, a1, a2, a3⟩, by simp [hl], ⟨X0, X1, X2, X3, rfl, q0, q1, q2, q3⟩, ?_⟩
  simp only [VRs, and_true]
  exact ⟨⟨v0, h0, k0⟩, ⟨v1, h1, k1⟩, ⟨v2, h2, k2⟩, ⟨v3, h3, k3⟩⟩
theorem reads_codes : Reads enc Try.prog w 22 (One (IsRows 4 IsCd)) := reads_rows u_codes c_code reads_code
end
/-! ### A law's row -/
theorem own0 : ownKnob Try.prog.godebug = none := by kernel_rfl
theorem laid0 : laidOutB Try.prog = true := by kernel_rfl
section
variable {H : Type} {enc : TypeId × Value → H} {P : Program}
theorem kept_of_fr {W W' : World} (f : Fr (fun _ => False) W W') (may : MemPlace → Prop) : W.keptBut W' may := by
  refine ⟨f.os, f.output, fun i hi => ?_⟩
  rw [f.block i hi (fun h => h)]
  exact (World.keptBut_refl W may).2.2 i hi
theorem post_true {f : Func} {s : ChangeSpec} {t tb : TypeId} {apart fresh handsOn again : Bool} (hl : laidOutB P = true) (hr : P.readableRec t = true) (hrow : t < P.types.size) (hb : P.underlying tb = some .bool) (hpar : f.params.toList = [t]) (hrt : f.resultTypes = #[tb]) (hvar : s.vars = [])
    {W W' : World} {v0 : Value} {d : DataW H} {before : List MemPlace} (hfn : s.fn H ([d] ++ []) = { results := [.lit (.bool true)], args := [d] }) (hW : DataW.Whole enc P f.params.toList s.vars apart W [v0] [d] [] before) (hfr : Fr (fun _ => False) W W') :
    s.post enc P f apart fresh handsOn again W #[v0] (.bool true) W' := by
  have hW' := hW
  obtain ⟨p, q, hA, hV, hpq, hz, hn⟩ := hW
  rw [hpar] at hA
  rw [hvar] at hV
  have hq : q = [] := by simpa [DataW.TrodVars] using hV
  subst hq
  rw [List.append_nil] at hpq
  subst hpq
  obtain ⟨p1, p2, ⟨n, hd⟩, h2, hp⟩ := hA
  have hp2 : p2 = [] := by simpa [DataW.TrodAll] using h2
  subst hp2
  rw [List.append_nil] at hp
  subst hp
  have hlt : ∀ x ∈ before, x.block < W.heap.size := hW'.lt
  have good := DataW.trod_good (kids_book hl hr) (fun h => by cases h) n t _ _ ⟨hrow, book_self t⟩ hd
  have stays : ∀ sp : Nat → Bool, (∀ x ∈ before, sp x.block = true) → DataW.trod enc P W' 0 sp true n t v0.cells.toList = some (d, before) := fun sp hsp =>
    DataW.trod_stays (kids_book hl hr) (book_sized hr) (fun h => by cases h) ⟨hrow, book_self t⟩ hd (fun x hx => by
      have hx' := hlt x hx
      have hb := hfr.block x.block hx' (fun h => h)
      cases x with
      | cell b off => simp only [World.sameAt, World.cell?]; simp only [MemPlace.block] at hb; rw [hb]
      | map b => simp only [World.sameAt]; exact hb) hsp
  have hargs : ∀ sp : Nat → Bool, (∀ x ∈ before, sp x.block = true) → DataW.TrodAll enc P W' 0 sp true f.params.toList [v0] [d] before := by
    intro sp hsp
    rw [hpar]
    exact ⟨before, [], ⟨n, stays sp hsp⟩, rfl, by simp⟩
  have hres : ∀ (b : Nat) (sp : Nat → Bool) (hd : Bool), DataW.TrodAll enc P W' b sp hd f.resultTypes.toList ((Value.bool true).resultList f.resultTypes.size) (s.fn H ([d] ++ [])).results [] := by
    intro b sp hd
    rw [hfn, hrt]
    exact trodAll_cons_mk (shut_bool hb _) trodAll_mk0
  have hold : ∀ x ∈ before, (fun b => decide (b < W.heap.size)) x.block = true := fun x hx => by simpa using hlt x hx
  have hfna : (s.fn H ([d] ++ [])).args = [d] := by rw [hfn]
  have hfnv : (s.fn H ([d] ++ [])).vars = [] := by rw [hfn]
  have hargs0 : ∀ sp : Nat → Bool, (∀ x ∈ before, sp x.block = true) → DataW.TrodAll enc P W' 0 sp true f.params.toList [v0] (s.fn H ([d] ++ [])).args before := fun sp h => by rw [hfna]; exact hargs sp h
  have hvars0 : ∀ sp : Nat → Bool, DataW.TrodVars enc P W' sp s.vars (s.fn H ([d] ++ [])).vars [] := fun sp => by rw [hvar, hfnv]; rfl
  refine ⟨[d], [], before, [], before, [], hW', hres _ _ _, hargs0 _ hold, hvars0 _, World.keptBut_mono (fun x hx => ⟨hx, .inr (by simpa using hx)⟩) (kept_of_fr hfr _), fun _ => ?_⟩
  refine ⟨?_, _, _, ([] ++ before) ++ [], ⟨[] ++ before, [], trodAll_append (hargs0 _ (fun _ _ => rfl)) (hres _ _ _), hvars0 _, rfl, ?_, ?_⟩, ?_⟩
  · exact ok_one hrt rfl (okWide_bool_mk hb _)
  · intro b off hp
    have hp' : MemPlace.cell b off ∈ before := by simpa using hp
    have h1 := hz b off hp'
    have h2 := hfr.block b (hlt _ hp') (fun h => h)
    simp only [World.frozen?] at h1 ⊢
    have h2 : W'.heap[b]? = W.heap[b]? := h2
    rw [h2]
    exact h1
  · intro ha
    simpa using hn ha
  · intro x hx _
    simpa using hx
/-- What a law's function tells of an argument, as its row asks it. -/
theorem row_contract {f : FuncId} {fn : Func} {s : ChangeSpec} {t tb : TypeId} (hl : laidOutB P = true) (hr : P.readableRec t = true) (hrow : t < P.types.size) (hb : P.underlying tb = some .bool) (hpar : fn.params.toList = [t]) (hst : ∃ e, P.underlying t = some (.slice e)) (hrt : fn.resultTypes = #[tb]) (hvar : s.vars = [])
    (hfn : ∀ d : DataW H, s.fn H ([d] ++ []) = { results := [.lit (.bool true)], args := [d] }) {α : Type} {Q : RV → α → Prop} {F : List RV → Option Res} (good : GoodC P f (.pure F)) (hF : ∀ X a, Q X a → F [X] = some (.ret (.bool true)))
    {W : World} {base : Nat} {args : Array Value} {ds gs : List (DataW H)} {before : List MemPlace} (hval : ∀ (j : Nat) t v, fn.params[j]? = some t → args[j]? = some v → Value.okWide P W .any base t v) (hQ : Reads enc P W t (One Q)) (hW : DataW.Whole enc P fn.params.toList s.vars false W args.toList ds gs before) (hk : Rows.uptoSmall H (ds ++ gs) = true) :
    Calls P f args W fun e W' => ∃ v, e = .returned v ∧ s.post enc P fn false true false false W args v W' := by
  have hW' := hW
  obtain ⟨p, q, hA, hV, hpq, hz, hn⟩ := hW
  rw [hpar] at hA
  rw [hvar] at hV
  have hgs : gs = [] := by
    cases gs with
    | nil => rfl
    | cons g gs => simp [DataW.TrodVars] at hV
  subst hgs
  obtain ⟨v0, vs, d, ds', p1, p2, ha, rfl, hp, hd, h2⟩ := trodAll_cons hA
  obtain ⟨rfl, rfl, rfl⟩ := trodAll_nil h2
  have hargs : args = #[v0] := by rw [← Array.toList_inj]; exact ha
  subst hargs
  obtain ⟨n, hd⟩ := hd
  have hbulk : Rows.uptoBulk d ≤ 1048576 := by
    have := of_decide_eq_true hk
    simp only [List.append_nil, Rows.uptoBulkAll] at this
    omega
  obtain ⟨c, a, hc, ⟨X, rfl, hX⟩, hv⟩ := hQ n _ _ hd hbulk
  have hv1 : v0.cells.toList = [v0] := by
    obtain ⟨e, he⟩ := hst
    have hp0 : fn.params[0]? = some t := by rw [← Array.getElem?_toList, hpar]; rfl
    obtain ⟨a, len, cap, rfl⟩ := okWide_slice he (hval 0 t v0 hp0 rfl)
    rfl
  rw [hv1] at hv
  obtain ⟨_, hP⟩ := good
  refine (hP [X] _ (hF X a hX) (MW W) W #[v0] (fun a v h => h) rfl (by simpa using hv)).mono fun e W' ⟨M', _, _, _, hfr, u, he, hu⟩ => ?_
  simp only [VR] at hu
  subst hu
  exact ⟨_, he, post_true hl hr hrow hb hpar hrt hvar (hfn d) hW' hfr⟩
end
end Go.Proofs.Ytknphnmhjmejaaa
