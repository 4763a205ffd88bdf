/-  What the program's small checks tell. No conditions. -/
import Derived.Test.YtknphnmhjmejaaaGb4
import Derived.Test.YtknphnmhjmejaaaFe
namespace Go.Proofs.Ytknphnmhjmejaaa
set_option linter.unusedVariables false
theorem callV_gen {R : Type} {Γ : FuncId → Option Callee} {f : FuncId} {fst cap : List AV} {G : List AV → Hp → Option (ARes × Hp)} (hf : Γ f = some (.gen G)) {args : List AV} {h h' : Hp} {r : AV} (hg : G (fst ++ args ++ cap) h = some (.ret r, h')) (K Kp : AV → Hp → Option R) :
    callV Γ (.func f fst cap) h args K Kp = K r h' := by
  simp only [callV, callC, hf, callG, hg]
theorem callG_ret {R : Type} {G : List AV → Hp → Option (ARes × Hp)} {args : List AV} {h h' : Hp} {r : AV} (hg : G args h = some (.ret r, h')) (K Kp : AV → Hp → Option R) : callG G h args K Kp = K r h' := by
  simp [callG, hg]
theorem callG_pan {R : Type} {G : List AV → Hp → Option (ARes × Hp)} {args : List AV} {h h' : Hp} {r : AV} (hg : G args h = some (.pan r, h')) (K Kp : AV → Hp → Option R) : callG G h args K Kp = Kp r h' := by
  simp [callG, hg]
theorem callP_pan {R : Type} {h : Hp} {F : List RV → Option Res} {args : List AV} {rs : List RV} {r : RV} (ha : args.mapM (toRV h depthA) = some rs) (hF : F rs = some (.pan r)) (hf : args.all isRV = true ∨ flatR r = true) (K Kp : AV → Option R) :
    callP F h args K Kp = Kp (.rv r) := by
  simp only [callP, ha, hF, hf, if_true]
theorem nck_ptr {R : Type} {o v off : Nat} (K : AV → Option R) : nck (.ptr o v off) K = K (.ptr o v off) := rfl
/-- An error that is thrown. -/
abbrev errA (e : Int) : RV := .iface 32 (I e)
theorem must_true (e : Int) : F_ssa_must [.bool true, I e] = some (.ret (.tuple [])) := by
  unfold F_ssa_must
  rw [List.map_cons, List.map_cons, List.map_nil, ssa_must_eq, bsp_not (by rfl)]
  rfl
theorem must_false (e : Int) : F_ssa_must [.bool false, I e] = some (.pan (errA e)) := by
  unfold F_ssa_must
  rw [List.map_cons, List.map_cons, List.map_nil, ssa_must_eq, bsp_of (by rfl)]
  rfl
theorem must_call {R : Type} {h : Hp} {b : Bool} {e : Int} (K Kp : AV → Option R) : callP F_ssa_must h [.rv (.bool b), .rv (.int .i64 e)] K Kp = if b then K (.rv (.tuple [])) else Kp (.rv (errA e)) := by
  cases b with
  | true => rw [callP_ret (by simp [toRV, depthA]) (must_true e) (.inr rfl)]; rfl
  | false => rw [callP_pan (by simp [toRV, depthA]) (must_false e) (.inr rfl)]; rfl
def isBlkN (bs : List Blk) (n : Int) : Bool := decide (0 ≤ n) && match bs[n.toNat]? with | some b => b.kind != 0 | none => false
theorem okNums_eq (bs : List Blk) (l : List Int) : okNums bs l = l.all (isBlkN bs) := rfl
theorem isBlock_spec {ok e : Nat} {cells : List AV} {h : Hp} {bs : List Blk} {b : RV} (ho : h[ok]? = some ⟨0, e, cells⟩) (hc : cells[5]? = some (.rv b)) (hb : IsRows 6 IsBlk b bs) (n : Int) :
    G_ssa_checker_isBlock [.ptr ok 0 0, ai n] h = some (.ret (ab (isBlkN bs n)), h) := by
  unfold G_ssa_checker_isBlock
  rw [ssa_checker_isBlock_eq]
  simp only [nck_ptr, pad_ptr, ldv_at ho hc, hb.len, ssa_checker_isBlock_p7_eq, isBlkN]
  by_cases h0 : 0 ≤ n
  · obtain ⟨m, rfl⟩ : ∃ m : Nat, n = m := ⟨n.toNat, by omega⟩
    rw [bsp_of (decide_eq_true h0)]
    by_cases h1 : m < bs.length
    · obtain ⟨a, p, s, t, rest, _, _, _, _, hx⟩ := blk_at (R := ARes × Hp) hb h1
      rw [bsp_of (decide_eq_true (by omega)), hx]
      simp [pad, ldi, ldv, cellAt, asInt0, h1]
    · rw [bsp_not (decide_eq_false (by omega))]
      simp [h1]
  · rw [bsp_not (decide_eq_false (by omega))]
    simp [h0]
/-- A function value that tells of each of some numbers whether something is so, and but lays new variables. -/
def Asks (Γ : FuncId → Option Callee) (h : Hp) (fv : AV) (xs : List Int) (p : Int → Bool) : Prop :=
  ∀ n ∈ xs, ∀ l, ∃ l', ∀ (R : Type) (K Kp : AV → Hp → Option R), callV Γ fv (h ++ l) [ai n] K Kp = K (ab (p n)) (h ++ (l ++ l'))
theorem IndexFunc_loop {h : Hp} {fv : AV} {v : RV} {xs : List Int} {p : Int → Bool} (hv : IsInts v xs) (ha : Asks slices_IndexFunc_int_G h fv xs p) (k M : Nat) : ∀ (m i N : Nat) (l : Hp), i + m = xs.length → m < N →
    ∃ l', slices_IndexFunc_int_l52 k N M (.rv v) fv xs.length i (h ++ l) = some (.ret (ai (match (xs.drop i).findIdx? p with | some j => ((i + j : Nat) : Int) | none => -1)), h ++ (l ++ l')) := by
  intro m
  induction m with
  | zero =>
    intro i N l hi hN
    obtain ⟨N, rfl⟩ : ∃ N', N = N' + 1 := ⟨N - 1, by omega⟩
    rw [slices_IndexFunc_int_l52_eq, bsp_not (decide_eq_false (by omega)), slices_IndexFunc_int_p7_eq, List.drop_eq_nil_of_le (by omega)]
    exact ⟨[], by simp⟩
  | succ m ih =>
    intro i N l hi hN
    obtain ⟨N, rfl⟩ : ∃ N', N = N' + 1 := ⟨N - 1, by omega⟩
    have hlt : i < xs.length := by omega
    have hs := hv.short
    obtain ⟨l1, h1⟩ := ha xs[i] (List.getElem_mem hlt) l
    rw [slices_IndexFunc_int_l52_eq, bsp_of (decide_eq_true (by omega)), hv.at hlt, h1, asBool_b, wri_succ (by omega), List.drop_eq_getElem_cons hlt, List.findIdx?_cons]
    cases e : p xs[i] with
    | true => exact ⟨l1, by rw [bsp_of rfl]; simp⟩
    | false =>
      obtain ⟨l2, h2⟩ := ih (i + 1) N (l ++ l1) (by omega) (by omega)
      refine ⟨l1 ++ l2, ?_⟩
      rw [bsp_not rfl, h2]
      cases (xs.drop (i + 1)).findIdx? p with
      | none => simp
      | some j => simp; omega
theorem ContainsFunc_spec {h : Hp} {fv : AV} {v : RV} {xs : List Int} {p : Int → Bool} (hv : IsInts v xs) (ha : Asks slices_IndexFunc_int_G h fv xs p) : ∃ l, G_slices_ContainsFunc_int [.rv v, fv] h = some (.ret (ab (xs.any p)), h ++ l) := by
  have hs := hv.short
  obtain ⟨l, hl⟩ := IndexFunc_loop hv ha big h.length xs.length 0 big [] (by omega) (by rw [big_val]; omega)
  refine ⟨l, ?_⟩
  have h1 : G_slices_IndexFunc_int [.rv v, fv] h = some (.ret (ai (match xs.findIdx? p with | some j => (j : Int) | none => -1)), h ++ l) := by
    unfold G_slices_IndexFunc_int
    rw [slices_IndexFunc_int_eq, hv.len, show ((0 : Int)) = ((0 : Nat) : Int) from rfl]
    simpa using hl
  unfold G_slices_ContainsFunc_int
  rw [slices_ContainsFunc_int_eq, callG_ret h1, asInt_i]
  cases e : xs.findIdx? p with
  | none =>
    have : xs.any p = false := by simpa [List.findIdx?_eq_none_iff] using e
    rw [this]; rfl
  | some j =>
    have : xs.any p = true := by
      have := List.findIdx?_eq_some_iff_getElem.1 e
      obtain ⟨h1, h2, _⟩ := this
      exact List.any_eq_true.2 ⟨xs[j], List.getElem_mem h1, h2⟩
    rw [this]
    simp
theorem all_spec {h : Hp} {fv : AV} {v : RV} {xs : List Int} {p : Int → Bool} (hv : IsInts v xs) (h1 : vcells fv = some [fv]) (ha : Asks ssa_all_c1_G h fv xs p) : ∃ l, G_ssa_all [.rv v, fv] h = some (.ret (ab (xs.all p)), h ++ l) := by
  have ha' : Asks slices_IndexFunc_int_G (h ++ [⟨0, 1, [fv]⟩]) (.func id_ssa_all_c1 [] [.ptr h.length 0 0]) xs (fun n => !p n) := by
    intro n hn l
    obtain ⟨l', hl⟩ := ha n hn (⟨0, 1, [fv]⟩ :: l)
    refine ⟨l', fun R K Kp => callV_gen rfl ?_ K Kp⟩
    unfold G_ssa_all_c1
    rw [List.nil_append, List.singleton_append, ssa_all_c1_eq, ldv_at (get_old (get_new _) l) rfl, List.append_assoc, List.singleton_append, hl, asBool_b]
    simp
  obtain ⟨l, hl⟩ := ContainsFunc_spec hv ha'
  refine ⟨[⟨0, 1, [fv]⟩] ++ l, ?_⟩
  unfold G_ssa_all
  rw [ssa_all_eq, h1]
  simp only [nwc]
  rw [callG_ret hl, asBool_b]
  have : (xs.any fun n => !p n) = !(xs.all p) := by simp [List.all_eq_not_any_not]
  rw [this]
  simp
theorem asks_isBlock {ok e : Nat} {cells : List AV} {h : Hp} {bs : List Blk} {b : RV} (ho : h[ok]? = some ⟨0, e, cells⟩) (hc : cells[5]? = some (.rv b)) (hb : IsRows 6 IsBlk b bs) (xs : List Int) :
    Asks ssa_all_c1_G h (.func id_ssa_checker_isBlock [.ptr ok 0 0] []) xs (isBlkN bs) := fun n hn l =>
  ⟨[], fun R K Kp => callV_gen rfl (by rw [List.append_nil, List.append_nil]; exact isBlock_spec (get_old ho l) hc hb n) K Kp⟩
end Go.Proofs.Ytknphnmhjmejaaa
