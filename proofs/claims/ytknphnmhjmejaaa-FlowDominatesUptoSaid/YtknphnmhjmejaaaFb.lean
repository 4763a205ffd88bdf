/-  What the flow's searches tell. No conditions. -/
import Derived.Test.YtknphnmhjmejaaaFa
import Derived.Test.YtknphnmhjmejaaaBfs
namespace Go.Proofs.Ytknphnmhjmejaaa
set_option linter.unusedVariables false
abbrev an' (n : Nat) : AV := .rv (.int .i64 n)
/-- What lies on the heap: the code's cells, the list of what was seen, the list of what is to be looked at. -/
structure RH (h : Hp) (oc os ol vl : Nat) (cells : List AV) (seen : List Bool) (list : List Nat) : Prop where
  c : h[oc]? = some ⟨0, 1, cells⟩
  s : h[os]? = some ⟨0, 1, seen.map ab⟩
  l : h[ol]? = some ⟨vl, 1, list.map an'⟩
  cs : oc ≠ os
  cl : oc ≠ ol
  sl : os ≠ ol
theorem RH.push {h : Hp} {oc os ol vl : Nat} {cells : List AV} {seen : List Bool} {list : List Nat} (k : RH h oc os ol vl cells seen list) (n : Nat) :
    RH ((h.set os ⟨0, 1, (seen.map ab).set n (ab true)⟩ ++ [(⟨0, 1, [an' n]⟩ : Ob)]).set ol ⟨vl + 1, 1, list.map an' ++ [an' n]⟩) oc os ol (vl + 1) cells (seen.set n true) (list ++ [n]) where
  c := get_set_ne k.cl.symm (get_old (get_set_ne k.cs.symm k.c) _)
  s := get_set_ne k.sl.symm (by rw [List.map_set]; exact get_old (get_set_eq k.s) _)
  l := by rw [List.map_append]; exact get_set_eq (get_old (get_set_ne k.sl k.l) _)
  cs := k.cs
  cl := k.cl
  sl := k.sl
theorem RH.init {h : Hp} {oc os n : Nat} {cells : List AV} (hc : h[oc]? = some ⟨0, 1, cells⟩) (hs : h[os]? = some ⟨0, 1, (List.replicate n false).map ab⟩) (hn : oc ≠ os) (x : Nat) :
    RH (h.set os ⟨0, 1, ((List.replicate n false).map ab).set x (ab true)⟩ ++ [(⟨0, 1, [an' x]⟩ : Ob)]) oc os h.length 0 cells ((List.replicate n false).set x true) [x] where
  c := get_old (get_set_ne hn.symm hc) _
  s := by rw [List.map_set]; exact get_old (get_set_eq hs) _
  l := by have := get_new (h := h.set os ⟨0, 1, ((List.replicate n false).map ab).set x (ab true)⟩) ⟨0, 1, [an' x]⟩; rw [List.length_set] at this; exact this
  cs := hn
  cl := by have := get_lt hc; omega
  sl := by have := get_lt hs; omega
theorem ldb_at {R : Type} {h : Hp} {o v e off : Nat} {cs : List AV} {b : Bool} (ho : h[o]? = some ⟨v, e, cs⟩) (hx : cs[off]? = some (ab b)) (K : Bool → Option R) : ldb h (.ptr o v off) K = K b := by
  simp [ldb, ldv, cellAt, ho, hx, asBool0]
/-- All that blocks lead to are blocks. -/
def okSuccs (bs : List Blk) : Prop := ∀ (x : Nat) (b : Blk), bs[x]? = some b → ∀ n ∈ b.succs, ∃ m : Nat, n = m ∧ m < bs.length
theorem okNums_mem {bs : List Blk} {l : List Int} (h : okNums bs l = true) : ∀ n ∈ l, ∃ m : Nat, n = m ∧ m < bs.length := by
  intro n hn
  simp only [okNums, List.all_eq_true, Bool.and_eq_true, decide_eq_true_eq] at h
  obtain ⟨h0, h1⟩ := h n hn
  refine ⟨n.toNat, by omega, ?_⟩
  cases e : bs[n.toNat]? with
  | none => rw [e] at h1; cases h1
  | some b => exact (List.getElem?_eq_some_iff.1 e).1
theorem formOk_succs {bs : List Blk} (h : formOk bs = true) : okSuccs bs := by
  intro x b hb n hn
  simp only [formOk, Bool.and_eq_true, List.all_eq_true] at h
  have := h.2 b (List.mem_of_getElem? hb)
  unfold blkOk at this
  split at this
  · simp at this
    rw [this.2] at hn
    simp at hn
  · simp only [Bool.and_eq_true] at this
    exact okNums_mem this.2 n hn
section
variable {p r v b : RV} {d : Cd} {w : Int} {s : Nat} {oc os ol : Nat} {k' : Nat}
def ReachPost (bs : List Blk) (w : Int) (s os : Nat) (o : Option (ARes × Hp)) : Prop :=
  ∃ (h' : Hp) (seen : List Bool), o = some (.ret (.sl os 0 0 bs.length), h') ∧ h'[os]? = some ⟨0, 1, seen.map ab⟩ ∧ seen.length = bs.length ∧ ∀ x : Nat, seen[x]? = some true ↔ Rch bs w s x
theorem Reached_inner (hd : IsCd [p, r, v, b] d) (hsh : d.blocks.length < 17592186044415) (hok : okSuccs d.blocks) (k N M M' i x : Nat) {bx : Blk} {sv : RV} (hbx : d.blocks[x]? = some bx) (hsv : IsInts sv bx.succs)
    (outer : ∀ seen list vl h, RH h oc os ol vl [.rv p, .rv r, .rv v, .rv b] seen list → BI d.blocks w s seen list (i + 1) 0 → ReachPost d.blocks w s os (r13_Reached_l1012 k N M w (.ptr oc 0 0) (.sl os 0 0 d.blocks.length) (.sl ol vl 0 list.length) ((i + 1 : Nat) : Int) h)) :
    ∀ (m j N' : Nat) (seen : List Bool) (list : List Nat) (vl : Nat) (h : Hp), j + m = bx.succs.length → m < N' → list[i]? = some x → RH h oc os ol vl [.rv p, .rv r, .rv v, .rv b] seen list → BI d.blocks w s seen list i j →
      ReachPost d.blocks w s os (r13_Reached_l129612 k N M N' M' w (.ptr oc 0 0) (.sl os 0 0 d.blocks.length) (.sl ol vl 0 list.length) i (.rv sv) j h) := by
  intro m
  induction m with
  | zero =>
    intro j N' seen list vl h hj hN hx hh hi
    obtain ⟨N', rfl⟩ : ∃ q, N' = q + 1 := ⟨N' - 1, by omega⟩
    have hb := hi.bound
    have hil := (List.getElem?_eq_some_iff.1 hx).1
    rw [r13_Reached_l129612_eq, hsv.len, bsp_not (decide_eq_false (by omega)), r13_Reached_p4051_eq, wri_succ (by omega)]
    exact outer seen list vl h hh (hi.next hx hbx (by omega))
  | succ m ih =>
    intro j N' seen list vl h hj hN hx hh hi
    obtain ⟨N', rfl⟩ : ∃ q, N' = q + 1 := ⟨N' - 1, by omega⟩
    have hjl : j < bx.succs.length := by omega
    have hss := hsv.short
    have hbd := hi.bound
    obtain ⟨n, hn, hnl⟩ := hok x bx hbx bx.succs[j] (List.getElem_mem hjl)
    have hsj : bx.succs[j]? = some (n : Int) := by rw [List.getElem?_eq_getElem hjl, hn]
    rw [r13_Reached_l129612_eq, hsv.len, bsp_of (decide_eq_true (by omega)), hsv.at hjl, hn]
    have hsn : ∃ q, seen[n]? = some q := ⟨seen[n]'(by rw [hi.len]; exact hnl), List.getElem?_eq_getElem _⟩
    obtain ⟨q, hq⟩ := hsn
    have skip : (n : Int) = w ∨ q = true → ReachPost d.blocks w s os (r13_Reached_p2073801 k N M N' M' w (.ptr oc 0 0) (.sl os 0 0 d.blocks.length) (.sl ol vl 0 list.length) i (.rv sv) j false h) := by
      intro hs
      rw [r13_Reached_p2073801_eq, bsp_not rfl, r13_Reached_p518451_eq, wri_succ (by omega)]
      exact ih (j + 1) N' seen list vl h (by omega) (by omega) hx hh (hi.skip hx hbx hsj (hs.imp id fun e => by rw [hq, e]))
    by_cases hw : (n : Int) = w
    · rw [bsp_not (by simp [hw])]
      exact skip (.inl hw)
    · rw [bsp_of (by simpa using hw), hsv.at hjl, hn, sl_at hnl, ldb_at (b := q) hh.s (by simp [hq])]
      cases q with
      | true => exact skip (.inr rfl)
      | false =>
        rw [r13_Reached_p2073801_eq, bsp_of (by rfl), hsv.at hjl, hn, sl_at hnl, stv_at hh.s (by simp; rw [hi.len]; exact hnl) rfl rfl, hsv.at hjl, hn, bsl_one rfl]
        rw [apn_one (get_set_ne hh.sl hh.l) (by simp) (by omega) rfl, r13_Reached_p518451_eq, wri_succ (by omega)]
        have := ih (j + 1) N' (seen.set n true) (list ++ [n]) (vl + 1) _ (by omega) (by omega) (by rw [List.getElem?_append_left (List.getElem?_eq_some_iff.1 hx).1]; exact hx) (hh.push n) (hi.push hx hbx hsj hw hq)
        rw [List.length_append] at this
        exact this
theorem Reached_outer (hd : IsCd [p, r, v, b] d) (hsh : d.blocks.length < 17592186044415) (hok : okSuccs d.blocks) (hk : d.blocks.length + 140737488355330 < k') (M : Nat) :
    ∀ (m i N : Nat) (seen : List Bool) (list : List Nat) (vl : Nat) (h : Hp), i + m = d.blocks.length → m < N → RH h oc os ol vl [.rv p, .rv r, .rv v, .rv b] seen list → BI d.blocks w s seen list i 0 →
      ReachPost d.blocks w s os (r13_Reached_l1012 k' N M w (.ptr oc 0 0) (.sl os 0 0 d.blocks.length) (.sl ol vl 0 list.length) i h) := by
  have fin : ∀ (i N : Nat) (seen : List Bool) (list : List Nat) (vl : Nat) (h : Hp), list.length ≤ i → 0 < N → RH h oc os ol vl [.rv p, .rv r, .rv v, .rv b] seen list → BI d.blocks w s seen list i 0 →
      ReachPost d.blocks w s os (r13_Reached_l1012 k' N M w (.ptr oc 0 0) (.sl os 0 0 d.blocks.length) (.sl ol vl 0 list.length) i h) := by
    intro i N seen list vl h hi hN hh hb
    obtain ⟨N, rfl⟩ : ∃ q, N = q + 1 := ⟨N - 1, by omega⟩
    rw [r13_Reached_l1012_eq, sl_len, bsp_not (decide_eq_false (by omega)), r13_Reached_p127_eq]
    exact ⟨h, seen, rfl, hh.s, hb.len, hb.fin hi⟩
  intro m
  induction m with
  | zero =>
    intro i N seen list vl h hi hN hh hb
    exact fin i N seen list vl h (by have := hb.bound; omega) hN hh hb
  | succ m ih =>
    intro i N seen list vl h hi hN hh hbi
    by_cases hl : list.length ≤ i
    · exact fin i N seen list vl h hl (by omega) hh hbi
    · obtain ⟨N, rfl⟩ : ∃ q, N = q + 1 := ⟨N - 1, by omega⟩
      have hil : i < list.length := by omega
      have hd' := hd
      obtain ⟨p, r, v, b, e, _, _, _, hb⟩ := hd
      cases e
      have hxl : list[i] < d.blocks.length := hbi.lt (List.getElem_mem hil)
      obtain ⟨a, q, t, u, rest, k1, k2, k3, k4, hx⟩ := blk_at (R := ARes × Hp) hb hxl
      rw [r13_Reached_l1012_eq, sl_len, bsp_of (decide_eq_true (by omega)), pad_ptr, ldv_at hh.c rfl, sl_at hil, ldi_at (n := (list[i] : Nat)) hh.l (by simp [hil]), hx, pad_rop4, ldv_rop]
      exact Reached_inner hd' hsh hok k' N M _ i list[i] (List.getElem?_eq_getElem hxl) k3 (fun seen' list' vl' h' hh' hb' => ih (i + 1) N seen' list' vl' h' (by omega) (by omega) hh' hb')
        d.blocks[list[i]].succs.length 0 k' seen list vl h (by omega) (by have := k3.short; omega) (List.getElem?_eq_getElem hil) hh hbi
/-- A list of bools. -/
def IsBools (x : RV) (bs : List Bool) : Prop := x = .ros (bs.map .bool) bs.length
theorem mapM_bools {h : Hp} (n : Nat) (bs : List Bool) : (bs.map ab).mapM (toRV h (n + 1)) = some (bs.map .bool) := by
  induction bs with
  | nil => rfl
  | cons b bs ih => simp [toRV, ih]
theorem toRV_bools {h : Hp} {o : Nat} {bs : List Bool} (ho : h[o]? = some ⟨0, 1, bs.map ab⟩) : toRV h depthA (.sl o 0 0 bs.length) = some (.ros (bs.map .bool) bs.length) := by
  have h1 : ((bs.map ab).drop 0).take (bs.length * 1) = bs.map ab := by
    rw [List.drop_zero, List.take_of_length_le (by simp)]
  simp only [depthA, toRV, ho]
  rw [if_pos (by simp), h1, mapM_bools]
  rfl
theorem Reached_spec {cs : List RV} {d : Cd} (hd : IsCd cs d) (hf : formOk d.blocks = true) (w : Int) :
    ∃ x seen, F_r13_Reached [.agg cs, I w] = some (.ret x) ∧ IsBools x seen ∧ seen.length = d.blocks.length ∧ ∀ i : Nat, seen[i]? = some true ↔ w ≠ 0 ∧ Rch d.blocks w 0 i := by
  have hd' := hd
  obtain ⟨p, r, v, b, rfl, _, _, _, hb⟩ := hd
  have hlen : 0 < d.blocks.length ∧ d.blocks.length ≤ 4096 := by
    simp only [formOk, Bool.and_eq_true, decide_eq_true_eq] at hf
    exact hf.1
  have ho : ([⟨0, 1, [.rv p, .rv r, .rv v, .rv b]⟩] : Hp)[0]? = some ⟨0, 1, [.rv p, .rv r, .rv v, .rv b]⟩ := rfl
  unfold F_r13_Reached
  rw [List.map_cons, List.map_cons, List.map_nil, r13_Reached_eq, box_agg, List.nil_append, List.length_nil, show List.map AV.rv [p, r, v, b] = [.rv p, .rv r, .rv v, .rv b] from rfl,
    pad_ptr, ldv_at ho rfl, hb.len, mks_one (by omega) (by omega)]
  have hz : ∀ n : Nat, zrep [ab false] n = (List.replicate n false).map ab := by
    intro n; simp [zrep]
  by_cases hw : w = 0
  · rw [bsp_of (by simp [hw])]
    refine ⟨_, List.replicate d.blocks.length false, ?_, rfl, by simp, fun i => ?_⟩
    · have := toRV_bools (h := [⟨0, 1, [.rv p, .rv r, .rv v, .rv b]⟩, ⟨0, 1, (List.replicate d.blocks.length false).map ab⟩]) (o := 1) (bs := List.replicate d.blocks.length false) rfl
      simp only [List.length_replicate, List.map_replicate] at this
      simp [pureR, hz, this]
    · rw [List.getElem?_replicate]
      split <;> simp [hw]
  · obtain ⟨h1, eh1⟩ : ∃ h1 : Hp, h1 = [⟨0, 1, [.rv p, .rv r, .rv v, .rv b]⟩] ++ [⟨0, 1, zrep [ab false] d.blocks.length⟩] := ⟨_, rfl⟩
    have hc0 : h1[0]? = some ⟨0, 1, [.rv p, .rv r, .rv v, .rv b]⟩ := by rw [eh1]; rfl
    have hs0 : h1[1]? = some ⟨0, 1, (List.replicate d.blocks.length false).map ab⟩ := by rw [eh1, hz]; rfl
    have hl1 : ([⟨0, 1, [.rv p, .rv r, .rv v, .rv b]⟩] : Hp).length = 1 := rfl
    rw [bsp_not (by simpa using hw), hl1, ← eh1, show ((0 : Int)) = ((0 : Nat) : Int) from rfl, sl_at hlen.1, stv_at hs0 (by simp; exact hlen.1) rfl rfl, bsl_one rfl, List.length_set]
    obtain ⟨h', seen, e, h2, h3, h4⟩ := Reached_outer (w := w) (s := 0) (k' := big) hd' (by omega) (formOk_succs hf) (by rw [big_val]; omega)
      (h1.set 1 ⟨0, 1, ((List.replicate d.blocks.length false).map ab).set 0 (ab true)⟩ ++ [(⟨0, 1, [an' 0]⟩ : Ob)]).length d.blocks.length 0 big _ [0] 0 _ (by omega) (by rw [big_val]; omega) (RH.init hc0 hs0 (by omega) 0) (BI.init hlen.1)
    refine ⟨_, seen, ?_, rfl, h3, fun i => by simp [hw, h4]⟩
    have ht := toRV_bools h2
    rw [h3] at ht ⊢
    rw [show (([0] : List Nat).length) = 1 from rfl] at e
    rw [e]
    simp [pureR, ht]
end
end Go.Proofs.Ytknphnmhjmejaaa
