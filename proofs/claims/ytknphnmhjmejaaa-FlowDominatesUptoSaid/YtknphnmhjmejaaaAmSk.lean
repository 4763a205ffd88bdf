/-  The abstract machine's control. No conditions. -/
import Derived.Test.YtknphnmhjmejaaaAmW
import Derived.Shelf.Abstract
import Derived.RangeFuncIn
namespace Go.Proofs.Ytknphnmhjmejaaa
set_option linter.unusedVariables false
set_option linter.unusedSimpArgs false
section
variable {P : Program} {Γ : FuncId → Option Callee} {ops : Array Oper} {R : Type}
/-! ### Control -/
theorem regA_sound (hm : P.follows .mixedOrders = true) (good : Good P Γ) {id : Nat} {draw : Bool} {σ : St} {K : Cont R} {r : R} (hk : regA P Γ ops draw σ K = some r) :
    ∃ e σ', K e σ' = some r ∧ ∀ rr nn B a w, Sim B σ a w → (Code.region id ops draw).wpIn (FW rr) nn P (ExQ B e σ') a w := by
  rw [regA_eq] at hk
  rcases bsq_inv hk with ⟨hdr, hk1⟩ | ⟨hdr, hk1⟩
  · rcases bsq_inv hk1 with ⟨hd, hk2⟩ | ⟨_, hk2⟩
    · simp only [drawOk, Bool.and_eq_true, Region.lexB] at hd
      obtain ⟨⟨_, hl⟩, hc⟩ := hd
      rw [List.range_eq_range'] at hk2
      have hcl : Closed ops (Array.replicate ops.size false) := by
        intro j oj hoj hj
        have := (Array.getElem?_eq_some_iff.1 hoj).1
        simp [Array.getD, this] at hj
      rcases anyA_lex P Γ ops good ops.size 0 (Array.replicate ops.size false) σ (by simp) (by simp) hcl (fun j hj => by omega) hl hc hk2 with ⟨σf, hK, hA⟩ | ⟨σf, v, h', hK, hP, hA⟩
      · refine ⟨.normal, σf, hK, fun rr nn B a w hS => ?_⟩
        rw [hdr]
        refine wpIn_region_any hm (anyA_sound good _ _ σ a _ hA ?_)
        obtain ⟨J, M, st, hs, hv, hd⟩ := hS
        exact ⟨J, M, st.trans (Stp.drew st.hr), hs, hv, hd⟩
      · refine ⟨.pan v, _, hK, fun rr nn B a w hS => ?_⟩
        rw [hdr]
        refine wpIn_region_any hm (anyB_sound good hP.1 _ _ σ a _ hA ?_)
        obtain ⟨J, M, st, hs, hv, hd⟩ := hS
        exact ⟨J, M, st.trans (Stp.drew st.hr), hs, hv, hd⟩
    · rcases regW_any good hk2 with ⟨σf, hK, hA⟩ | ⟨σf, v, h', hK, hP, hA⟩
      · refine ⟨.normal, σf, hK, fun rr nn B a w hS => ?_⟩
        rw [hdr]
        refine wpIn_region_any hm (anyA_sound good _ _ σ a _ hA ?_)
        obtain ⟨J, M, st, hs, hv, hd⟩ := hS
        exact ⟨J, M, st.trans (Stp.drew st.hr), hs, hv, hd⟩
      · refine ⟨.pan v, _, hK, fun rr nn B a w hS => ?_⟩
        rw [hdr]
        refine wpIn_region_any hm (anyB_sound good hP.1 _ _ σ a _ hA ?_)
        obtain ⟨J, M, st, hs, hv, hd⟩ := hS
        exact ⟨J, M, st.trans (Stp.drew st.hr), hs, hv, hd⟩
  · obtain ⟨e, σ', hK, hw⟩ := aopsIn_sound good _ σ K r hk1
    exact ⟨e, σ', hK, fun rr nn B a w hS => by rw [hdr]; exact wpIn_region (hw rr nn B a w hS)⟩
end
theorem clrA_heap (ann : Ann) (pos : Nat) (σ : St) : (clrA ann pos σ).heap = σ.heap := by
  unfold clrA; split <;> rfl
theorem clrA_sim {B : Bs} {σ : St} {a : Act} {w : World} (hS : Sim B σ a w) (ann : Ann) (pos : Nat) : Sim B (clrA ann pos σ) a w := by
  unfold clrA
  split
  · rename_i x _
    obtain ⟨J, M, st, hs, hv, hd⟩ := hS
    refine ⟨J, M, st, by rw [hs]; exact (keepA_length _ _ _).symm, Vs_iff.2 fun i y hy => ?_, hd⟩
    rcases keepA_get _ _ _ _ _ hy with rfl | hy'
    · have hlt := (List.getElem?_eq_some_iff.1 hy).1
      rw [keepA_length, ← hs] at hlt
      exact ⟨a.tmps[i], by simp [hlt], by simp [V]⟩
    · exact Vs_iff.1 hv _ _ hy'
  · exact hS
theorem clrA_vs {J M} {σ : St} {tm : Array Value} (hs : tm.size = σ.tmps.length) (hv : Vs J M σ.tmps (fun i => tm[i]?)) (ann : Ann) (pos : Nat) : tm.size = (clrA ann pos σ).tmps.length ∧ Vs J M (clrA ann pos σ).tmps (fun i => tm[i]?) := by
  unfold clrA
  split
  · rename_i x _
    refine ⟨by rw [hs]; exact (keepA_length _ _ _).symm, Vs_iff.2 fun i y hy => ?_⟩
    rcases keepA_get _ _ _ _ _ hy with rfl | hy'
    · have hlt := (List.getElem?_eq_some_iff.1 hy).1
      rw [keepA_length, ← hs] at hlt
      exact ⟨tm[i], by simp [hlt], by simp [V]⟩
    · exact Vs_iff.1 hv _ _ hy'
  · exact ⟨hs, hv⟩
theorem trm_inv {R : Type} {n : Nat} {ts : List AV} {h : Hp} {K : Hp → Option R} {r : R} (hk : trm n ts h K = some r) : belL n ts = true ∧ (∀ ob, ob ∈ h.take n → belL n ob.cells = true) ∧ K (h.take n) = some r := by
  unfold trm at hk
  split at hk
  · rename_i hc
    exact ⟨hc.1, fun ob ho => List.all_eq_true.1 hc.2 ob ho, hk⟩
  · cases hk
theorem take_get {h : Hp} {n o : Nat} {ob : Ob} (ho : (h.take n)[o]? = some ob) : o < n ∧ h[o]? = some ob := by
  rw [List.getElem?_take] at ho
  split at ho
  · exact ⟨‹_›, ho⟩
  · cases ho
theorem HR.cut {J M h w} (r : HR J M h w) (n : Nat) (hb : ∀ ob, ob ∈ h.take n → belL n ob.cells = true) : HR (cutJ n J) M (h.take n) w := by
  have hj : ∀ o q e, cutJ n J o q = some e → o < n ∧ J o q = some e := by
    intro o q e k
    unfold cutJ at k
    split at k
    · exact ⟨‹_›, k⟩
    · cases k
  refine ⟨?_, ?_, ?_, r.im, ?_⟩
  · intro o ob ho
    obtain ⟨hlt, ho'⟩ := take_get ho
    obtain ⟨e, c, t, he, hs, hbk, hn, hv⟩ := r.ob o ob ho'
    exact ⟨e, c, t, by simp [cutJ, hlt, he], hs, hbk, hn, Vs_cut n _ _ (hb ob (List.mem_of_getElem? ho)) hv⟩
  · intro o q e k
    obtain ⟨hlt, k⟩ := hj _ _ _ k
    obtain ⟨ob, hob, hle⟩ := r.key _ _ _ k
    exact ⟨ob, by rw [List.getElem?_take, if_pos hlt]; exact hob, hle⟩
  · intro o1 o2 ob1 ob2 e1 e2 h1 h2 k1 k2 hbb
    exact r.inj _ _ _ _ _ _ (take_get h1).2 (take_get h2).2 (hj _ _ _ k1).2 (hj _ _ _ k2).2 hbb
  · intro a v o ob e k ho he
    exact r.sep _ _ _ _ _ k (take_get ho).2 (hj _ _ _ he).2
theorem trim_sim {B : Bs} {ts : List AV} {h : Hp} {a : Act} {w : World} {n : Nat} (hS : Sim B ⟨ts, h⟩ a w) (hn : B.h.length ≤ n) (h1 : belL n ts = true) (h2 : ∀ ob, ob ∈ h.take n → belL n ob.cells = true) (hkey : ∀ o q e, B.J o q = some e → o < B.h.length) :
    Sim B ⟨ts, h.take n⟩ a w := by
  obtain ⟨J, M, st, hs, hv, hd⟩ := hS
  refine ⟨cutJ n J, M, ⟨?_, st.mle, st.hr.cut n h2, ?_, st.fr, st.mnew, ?_⟩, hs, Vs_cut n _ _ h1 hv, hd⟩
  · intro o q e k
    have := hkey _ _ _ k
    simp only [cutJ]
    rw [if_pos (by omega)]
    exact st.jle _ _ _ k
  · have := st.len
    simp only [List.length_take] at this ⊢
    omega
  · rintro b ⟨o, ob, e, ho, he, rfl⟩
    obtain ⟨hlt, ho'⟩ := take_get ho
    unfold cutJ at he
    rw [if_pos hlt] at he
    exact st.onew _ ⟨o, ob, e, ho', he, rfl⟩
def Bs.ok (B : Bs) : Prop := ∀ o q e, B.J o q = some e → o < B.h.length
section
variable {P : Program} {Γ : FuncId → Option Callee} {R : Type} {ann : Ann} {trims : List Nat} {k : Nat}
/-- A piece of code: what it comes to of all that its state stands for. -/
def CSnd (P : Program) (c : Code) (σ : St) (e : AE) (σ' : St) : Prop := ∀ rr nn B a w, ((rr = none ∧ B.rng = true) ∨ noR c = true) → B.ok → Sim B σ a w → c.wpIn (FW rr) nn P (ExQ B e σ') a w
theorem CSnd.plain {P : Program} {c : Code} {σ : St} {e : AE} {σ' : St} (h : CSnd P c σ e σ') (hn : noR c = true) (B : Bs) (a : Act) (w : World) (hB : B.ok) (hS : Sim B σ a w) : c.wp P (ExQ B e σ') a w := wpIn_wide (n := 0).1 (h none 0 B a w (.inr hn) hB hS)
theorem noR_l {a b : Bool} (h : (a && b) = true) : a = true := (Bool.and_eq_true_iff.1 h).1
theorem noR_r {a b : Bool} (h : (a && b) = true) : b = true := (Bool.and_eq_true_iff.1 h).2
/-- The rounds of a range over what 'Backward' hands back. -/
inductive BkA (P : Program) (a b : Code) (p : AV) (i j : Nat) (ts : List AV) : Nat → Hp → Hp → Prop
  | done (h : Hp) : BkA P a b p i j ts 0 h h
  | next (n : Nat) (h h2 : Hp) (s q : AV) (x : Int) (σ1 σ2 : St) (hs : cellAt h p 0 = some s) (hq : ixa 1 s n some = some q) (hx : cellAt h q 0 = some (ai x)) (ha : CSnd P a ⟨(ts.set i (ai n)).set j (ai x), h⟩ .normal σ1) (hb : CSnd P b σ1 .normal σ2) (hn : BkA P a b p i j ts n σ2.heap h2) :
      BkA P a b p i j ts (n + 1) h h2
theorem CSnd.clr {P : Program} {c : Code} {σ σ' : St} (h : CSnd P c σ .normal σ') (ann : Ann) (pos : Nat) : CSnd P c σ .normal (clrA ann pos σ') :=
  fun rr nn B a w hR hB hS => wpIn_mono (h rr nn B a w hR hB hS) fun x a' w' hx => ⟨hx.1, clrA_sim hx.2 ann pos⟩
theorem ixa_inv {R : Type} {n : Nat} {s : AV} {i : Int} {K : AV → Option R} {r : R} (hk : ixa n s i K = some r) : ∃ q, ixa n s i some = some q ∧ K q = some r := by
  unfold ixa at hk ⊢
  split at hk
  · split at hk
    · rename_i hc
      exact ⟨_, by simp only [if_pos hc], hk⟩
    · cases hk
  · split at hk
    · rename_i hc
      exact ⟨_, by simp only [if_pos hc], hk⟩
    · cases hk
  · cases hk
theorem bkn_inv {R : Type} {s : AV} {K : Nat → Option R} {r : R} (hk : bkn s K = some r) : ∃ m, bkn s some = some m ∧ K m = some r := by
  unfold bkn lna at hk ⊢
  split at hk <;> (first | cases hk | skip)
  all_goals
    simp only at hk ⊢
    split at hk
    · rename_i hc
      exact ⟨_, by rw [if_pos hc], hk⟩
    · cases hk
theorem bkl_sound {a b : Code} {fa fb : St → Cont R → Option R} (hfa : ∀ σ K r, fa σ K = some r → ∃ e σ', K e σ' = some r ∧ CSnd P a σ e σ') (hfb : ∀ σ K r, fb σ K = some r → ∃ e σ', K e σ' = some r ∧ CSnd P b σ e σ') {mk : Bool} {pos : Nat} {p : AV} {i j : Nat} {ts : List AV} {K : Cont R} {r : R} :
    ∀ (m : Nat) (h : Hp), bkl (fun σ K => fa σ (asgK fb mk (clrA ann pos) K)) p i j ts m h K = some r → ∃ h', K .normal ⟨ts, h'⟩ = some r ∧ BkA P a b p i j ts m h h'
  | 0, h, hk => ⟨h, hk, .done h⟩
  | m + 1, h, hk => by
    obtain ⟨s, hs, hk⟩ := ldv_inv (show ldv h p (fun s => ixa 1 s m fun q => ldi .i64 h q fun x => fcd (tset (tset ts i (ai m)) j (ai x)) fun us => fa ⟨us, h⟩ (asgK fb mk (clrA ann pos) (bkK (fun h K => bkl (fun σ K => fa σ (asgK fb mk (clrA ann pos) K)) p i j ts m h K) K))) = some r from hk)
    obtain ⟨q, hq, hk⟩ := ixa_inv hk
    unfold ldi at hk
    obtain ⟨y, hy, hk⟩ := ldv_inv hk
    rw [asInt0_eq] at hk
    obtain ⟨x, hyx, hk2⟩ := asInt_inv hk
    subst hyx
    clear hk
    rw [fcd_eq, tset_eq, tset_eq] at hk2
    obtain ⟨e, σ1, hk, ha⟩ := hfa _ _ _ hk2
    cases e with
    | normal =>
      have step : ∀ σ1, CSnd P a ⟨(ts.set i (ai m)).set j (ai x), h⟩ .normal σ1 → fb σ1 (bkK (fun h K => bkl (fun σ K => fa σ (asgK fb mk (clrA ann pos) K)) p i j ts m h K) K) = some r → ∃ h', K .normal ⟨ts, h'⟩ = some r ∧ BkA P a b p i j ts (m + 1) h h' := by
        intro σ1 ha hk
        obtain ⟨e, σ2, hk, hb⟩ := hfb _ _ _ hk
        cases e with
        | normal =>
          obtain ⟨h', hK, hn⟩ := bkl_sound hfa hfb m σ2.heap hk
          exact ⟨h', hK, .next m h h' s q x σ1 σ2 hs hq hy ha hb hn⟩
        | exit i => cases hk
        | ret => cases hk
        | pan v => cases hk
      rcases bsq_inv (show bsq mk (pnt fb (clrA ann pos σ1) _) (fb σ1 _) = some r from hk) with ⟨_, hk⟩ | ⟨_, hk⟩
      · exact step _ (ha.clr ann pos) hk
      · exact step _ ha hk
    | exit i => cases hk
    | ret => cases hk
    | pan v => cases hk
theorem aloop_sound {c : Code} {body : St → Cont R → Option R} (hbody : ∀ σ K r, body σ K = some r → ∃ e σ', K e σ' = some r ∧ CSnd P c σ e σ') {pos : Nat} {tr : Bool} {n0 : Nat} :
    ∀ (n : Nat) (σ : St) (K : Cont R) (r : R), aloop body (clrA ann pos) tr n0 n σ K = some r → ∃ e σ', K e σ' = some r ∧ ∀ rr nn B a w, ((rr = none ∧ B.rng = true) ∨ noR c = true) → B.ok → B.h.length ≤ n0 → Sim B σ a w → Code.roundsIn (FW rr) nn P c (ExQ B e σ') n a w
  | 0, σ, K, r, hk => by cases hk
  | n + 1, σ, K, r, hk => by
    obtain ⟨e, σ1, h1, h2⟩ := hbody σ (itL (aloop body (clrA ann pos) tr n0 n) (clrA ann pos) tr n0 K) r hk
    have other : e ≠ .normal → K e σ1 = some r → ∃ e σ', K e σ' = some r ∧ ∀ rr nn B a w, ((rr = none ∧ B.rng = true) ∨ noR c = true) → B.ok → B.h.length ≤ n0 → Sim B σ a w → Code.roundsIn (FW rr) nn P c (ExQ B e σ') (n + 1) a w := by
      intro hne hK
      refine ⟨e, σ1, hK, fun rr nn B a w hR hB hl hS => wpIn_mono (h2 rr nn B a w hR hB hS) fun x a' w' hx => ?_⟩
      cases e with
      | normal => exact absurd rfl hne
      | exit i => obtain ⟨rfl, hx⟩ := hx; exact ⟨rfl, hx⟩
      | ret => obtain ⟨rfl, hx⟩ := hx; exact ⟨rfl, hx⟩
      | pan v => obtain ⟨J, M, u, rfl, hx⟩ := hx; exact ⟨J, M, u, rfl, hx⟩
    cases e with
    | exit i => exact other (by simp) h1
    | ret => exact other (by simp) h1
    | pan v => exact other (by simp) h1
    | normal =>
      cases tr with
      | true =>
        obtain ⟨hb1, hb2, h1⟩ := trm_inv (show trm n0 (clrA ann pos σ1).tmps σ1.heap (fun h => aloop body (clrA ann pos) true n0 n ⟨(clrA ann pos σ1).tmps, h⟩ K) = some r from h1)
        obtain ⟨e, σ', hK, hRd⟩ := aloop_sound hbody n _ K r h1
        refine ⟨e, σ', hK, fun rr nn B a w hR hB hl hS => wpIn_mono (h2 rr nn B a w hR hB hS) fun x a' w' hx => ?_⟩
        obtain ⟨rfl, hx⟩ := hx
        have hc := clrA_sim hx ann pos
        refine hRd rr nn B a' w' hR hB hl (trim_sim (h := σ1.heap) ?_ hl hb1 hb2 hB)
        have hh := clrA_heap ann pos σ1
        rw [← hh]
        exact hc
      | false =>
        obtain ⟨e, σ', hK, hRd⟩ := aloop_sound hbody n (clrA ann pos σ1) K r h1
        refine ⟨e, σ', hK, fun rr nn B a w hR hB hl hS => wpIn_mono (h2 rr nn B a w hR hB hS) fun x a' w' hx => ?_⟩
        obtain ⟨rfl, hx⟩ := hx
        exact hRd rr nn B a' w' hR hB hl (clrA_sim hx ann pos)
theorem BkA.run {a b : Code} {p : AV} {i j : Nat} {ts : List AV} {m : Nat} {h h' : Hp} (H : BkA P a b p i j ts m h h') (hno : (noR a && noR b) = true) {B : Bs} {l : Nat} {rl : Loop} (h1 : rl.state = .ready) (h2 : rl.pending = none) (h3 : rl.params = #[i, j]) (h4 : rl.assign = a) (h5 : rl.body = b) (hsz : rl.tmps.size = ts.length) (hv : Vs B.J B.M ts (fun i => rl.tmps[i]?)) :
    BkR P B l rl p m h h' := by
  induction H with
  | done h => exact .done h
  | next n h h2' s q x σ1 σ2 hs hq hx ha hb hn ih =>
    refine .next n h σ2.heap h2' s q x hs hq hx (fun nn J M w st hl => ?_) ih
    have hok : ∀ (J : Jm) (M : Mm) (h : Hp) (w : World) (D : List Deferred), HR J M h w → (⟨J, M, h, w, D, false⟩ : Bs).ok := by
      intro J M h w D hr o q e k
      obtain ⟨ob, hob, _⟩ := hr.key _ _ _ k
      exact (List.getElem?_eq_some_iff.1 hob).1
    refine roundIn_of_wpIn trivial ?_
    have hT : (rl.params.zip #[.int .i64 n, .int .i64 x]).foldl (fun tmps (t, a) => tmps.setIfInBounds t a) rl.tmps = (rl.tmps.setIfInBounds i (.int .i64 n)).setIfInBounds j (.int .i64 x) := by
      rw [h3]; simp
    rw [hT, h4, h5]
    refine wpIn_mono (ha (some l) nn ⟨J, M, h, w, [], false⟩ _ w (.inr (noR_l hno)) (hok _ _ _ _ _ st.hr) ⟨J, M, Stp.refl st.hr, by simp [hsz], ?_, DMk.none⟩) fun e a1 w1 hx1 => ?_
    · have hv0 := Vs_mono st.jle st.mle _ _ _ (fun _ _ k => k) hv
      have hv1 := Vs_set hsz hv0 i (V_int' (J := J) (M := M) .i64 n)
      exact Vs_set (by simp [hsz]) hv1 j (V_int' (J := J) (M := M) .i64 x)
    · obtain ⟨rfl, J1, M1, st1, hs1, hv1, hd1⟩ := hx1
      have hl1 : w1.heap[l]? = some (.loop rl) := st1.keeps st.hr hl (nc_loop rl)
      refine ⟨w1.putObj l (.loop { rl with state := .busy }), run_beginRound hl1 h1, ?_⟩
      have hr2 := st1.hr.far (.loop { rl with state := .busy }) hl1 (nc_loop rl)
      refine wpIn_mono (hb (some l) nn ⟨J1, M1, σ1.heap, w1.putObj l (.loop { rl with state := .busy }), a1.defers, false⟩ a1 _ (.inr (noR_r hno)) (hok _ _ _ _ _ hr2) ⟨J1, M1, Stp.refl hr2, hs1, hv1, DMk.none⟩) fun e a3 w3 hx3 => ?_
      obtain ⟨rfl, J3, M3, st3, _⟩ := hx3
      have hl2 : (w1.putObj l (.loop { rl with state := .busy })).heap[l]? = some (.loop { rl with state := .busy }) := World.putObj_heap_same (lt_of_cells hl1)
      have hl3 : w3.heap[l]? = some (.loop { rl with state := .busy }) := st3.keeps hr2 hl2 (nc_loop _)
      refine ⟨_, _, run_endRound none hl3, rfl, J3, M3, ?_⟩
      have hback : ({ { rl with state := .busy } with state := if (none : Option Code).isNone then .ready else .done, pending := none } : Loop) = rl := by
        cases rl
        simp_all
      rw [hback]
      exact st1.round hl (nc_loop rl) (nc_loop _) st3 hl3
theorem range_sound (good : Good P Γ) {g : Operand} {ps : Array Tmp} {a b : Code} {σ : St} {f : FuncId} {p s : AV} {i j m : Nat} {h' : Hp} {pos : Nat} (hg : aeval σ.tmps g = .func f [] [p]) (hf : Γ f = some .back) (hps : ps.toList = [i, j]) (hno : (noR a && noR b) = true)
    (hs : cellAt σ.heap p 0 = some s) (hm : bkn s some = some m) (H : BkA P a b p i j (clrA ann pos σ).tmps m σ.heap h') : CSnd P (.rangeFunc g ps a b) σ .normal ⟨(clrA ann pos σ).tmps, h'⟩ := by
  intro rr nn B a0 w hR hB hS
  obtain ⟨hrr, hrng⟩ := hR.resolve_right (by intro h; cases h)
  subst hrr
  obtain ⟨hent, st', ti, tb, ty, te, fn, by_, hback⟩ := good f _ hf
  have hps' : ps = #[i, j] := by rw [← Array.toList_inj]; exact hps
  obtain ⟨J, M, st, hsz, hv, hd⟩ := hS
  obtain ⟨hszc, hvc⟩ := clrA_vs hsz hv ann pos
  obtain ⟨us, vs, hgv, ⟨hus, _⟩, hvs, hvp⟩ := (by
    have := eval_rel hsz hv g
    rw [hg] at this
    simpa only [V] using this : ∃ us vs : Array Value, a0.eval g = .func (.func f) us vs ∧ (us.size = ([] : List AV).length ∧ Vs J M ([] : List AV) (fun i => us[i]?)) ∧ vs.size = [p].length ∧ Vs J M [p] (fun i => vs[i]?))
  have hus0 : us = #[] := Array.eq_empty_of_size_eq_zero hus
  subst hus0
  obtain ⟨pv, hpv, hp⟩ := Vs_iff.1 hvp 0 p rfl
  have hvs0 : vs = #[pv] := by
    apply Array.ext_getElem?
    intro i
    match i with
    | 0 => simpa using hpv
    | i + 1 => rw [Array.getElem?_eq_none (by simp [hvs])]; simp
  subst hvs0
  refine wpIn_rangeFunc fun fnid _ => ?_
  have st1 := Stp.laid st.hr (.deferred (some []))
  have st2 := Stp.laid st1.hr (.loop { state := .ready, pending := none, fn := fnid, tmps := a0.tmps, params := ps, assign := a, body := b, defers := w.heap.size })
  generalize hrl : ({ state := .ready, pending := none, fn := fnid, tmps := a0.tmps, params := ps, assign := a, body := b, defers := w.heap.size } : Loop) = rl at st2
  have hsize1 : (w.alloc (.deferred (some []))).heap.size = w.heap.size + 1 := by
    show (w.heap.push _).size = _
    simp
  have hD2 : ((w.alloc (.deferred (some []))).alloc (.loop rl)).heap[w.heap.size]? = some (.deferred (some [])) := by
    rw [heap_old _ _ (by omega)]
    exact heap_new w _
  have hl2 : ((w.alloc (.deferred (some []))).alloc (.loop rl)).heap[w.heap.size + 1]? = some (.loop rl) := by
    rw [← hsize1]
    exact heap_new _ _
  have hHR := st2.hr
  have hent' := run_enterLoop_outer (P := P) (w := w) fnid a0.tmps ps a b
  rw [hrl] at hent'
  have H2 := BkA.run H hno (B := ⟨J, M, σ.heap, (w.alloc (.deferred (some []))).alloc (.loop rl), [], false⟩) (l := w.heap.size + 1) (rl := rl) (by subst hrl; rfl) (by subst hrl; rfl) (by subst hrl; exact hps') (by subst hrl; rfl) (by subst hrl; rfl) (by subst hrl; exact hszc) (by subst hrl; exact hvc)
  refine ⟨w.heap.size + 1, [{ target := .collected w.heap.size, args := #[] }], (w.alloc (.deferred (some []))).alloc (.loop rl), { target := .fn (.func f) #[pv], args := #[.func (.yield (w.heap.size + 1)) #[] #[]] }, (w.alloc (.deferred (some []))).alloc (.loop rl), f, #[.func (.yield (w.heap.size + 1)) #[] #[], pv], (w.alloc (.deferred (some []))).alloc (.loop rl), hent', ?_, fun _ _ => trivial, ?_, fun h => (by cases h), ?_⟩
  · have hc : ∀ v, a0.eval (.const v) = v := fun _ => rfl
    simp [rangeCall, resolve, hgv, hc, Deferred.ofValue]
  · exact hent _ _
  · refine (back_calls hback hHR hl2 (by subst hrl; simp [hps']) hs hm H2 hp (nn - 1)).mono fun e w3 he => ?_
    obtain ⟨⟨v, rfl⟩, J', M', st3⟩ := he
    have hl3 := st3.keeps hHR hl2 (nc_loop rl)
    have hD3 := st3.keeps hHR hD2 (nc_def _)
    have h1 : rl.state = .ready := by subst hrl; rfl
    have h2 : rl.pending = none := by subst hrl; rfl
    refine ⟨rl.pending, _, run_endLoop hl3 (by rw [h1]; decide), ?_⟩
    have hall := (st.trans st1).trans (st2.trans st3)
    have hstp := st1.trans (st2.trans st3)
    have hfin := hall.far (l := w.heap.size + 1) (Nat.le_trans st.fr.size (by omega)) (.loop { rl with state := .exhausted }) hl3 (nc_loop rl)
    rw [h2] at hfin ⊢
    refine ⟨rfl, J', M', hfin, hszc, Vs_mono hstp.jle hstp.mle _ _ _ (fun _ _ k => k) hvc, ?_⟩
    obtain ⟨ds, e1, e2, e3, _⟩ := hd
    have hlt : ∀ D ∈ ds, D < w.heap.size := fun D hD => lt_of_cells (e3 D hD).2
    refine ⟨w.heap.size :: ds, by rw [e1]; rfl, ?_, fun D hD => ?_, .inr hrng⟩
    · rw [List.nodup_cons]
      exact ⟨fun h => absurd (hlt _ h) (by omega), e2⟩
    · rcases List.mem_cons.1 hD with rfl | hD
      · exact ⟨st.fr.size, by rw [World.putObj_heap_other (by omega)]; exact hD3⟩
      · refine ⟨(e3 D hD).1, ?_⟩
        rw [World.putObj_heap_other (by have := hlt D hD; omega)]
        exact hstp.keeps st.hr (e3 D hD).2 (nc_def _)
theorem acode_sound (hm : P.follows .mixedOrders = true) (good : Good P Γ) (c : Code) : ∀ (pos : Nat) (σ : St) (K : Cont R) (r : R), acode P Γ ann trims k c pos σ K = some r → ∃ e σ', K e σ' = some r ∧ CSnd P c σ e σ' := by
  induction c with
  | skip => exact fun pos σ K r hk => ⟨.normal, σ, hk, fun rr nn B a w _ _ hS => wpIn_skip ⟨rfl, hS⟩⟩
  | region id ops draw =>
    intro pos σ K r hk
    obtain ⟨e, σ', h1, h2⟩ := regA_sound (id := id) hm good (show regA P Γ ops draw σ K = some r from hk)
    exact ⟨e, σ', h1, fun rr nn B a w _ _ hS => h2 rr nn B a w hS⟩
  | seq x y ihx ihy =>
    intro pos σ K r hk
    obtain ⟨e, σ1, h1, h2⟩ := ihx (2 * pos) σ _ r (show acode P Γ ann trims k x (2 * pos) σ (seqK (acode P Γ ann trims k y (2 * pos + 1)) (hasA ann (2 * pos + 1)) (clrA ann (2 * pos + 1)) K) = some r from hk)
    have other : e ≠ .normal → K e σ1 = some r → ∃ e σ', K e σ' = some r ∧ CSnd P (.seq x y) σ e σ' := by
      intro hne hK
      refine ⟨e, σ1, hK, fun rr nn B a w hR hB hS => wpIn_seq (wpIn_mono (h2 rr nn B a w (hR.imp id noR_l) hB hS) fun z a' w' hz => ?_)⟩
      cases e with
      | normal => exact absurd rfl hne
      | exit i => obtain ⟨rfl, hz⟩ := hz; exact ⟨rfl, hz⟩
      | ret => obtain ⟨rfl, hz⟩ := hz; exact ⟨rfl, hz⟩
      | pan v => obtain ⟨J, M, u, rfl, hz⟩ := hz; exact ⟨J, M, u, rfl, hz⟩
    cases e with
    | exit i => exact other (by simp) h1
    | ret => exact other (by simp) h1
    | pan v => exact other (by simp) h1
    | normal =>
      rcases bsq_inv (show bsq (hasA ann (2 * pos + 1)) (acode P Γ ann trims k y (2 * pos + 1) (clrA ann (2 * pos + 1) σ1) K) (acode P Γ ann trims k y (2 * pos + 1) σ1 K) = some r from h1) with ⟨_, h1⟩ | ⟨_, h1⟩
      · obtain ⟨e, σ', h3, h4⟩ := ihy (2 * pos + 1) _ K r h1
        refine ⟨e, σ', h3, fun rr nn B a w hR hB hS => wpIn_seq (wpIn_mono (h2 rr nn B a w (hR.imp id noR_l) hB hS) fun z a' w' hz => ?_)⟩
        obtain ⟨rfl, hz⟩ := hz
        exact h4 rr nn B a' w' (hR.imp id noR_r) hB (clrA_sim hz ann _)
      · obtain ⟨e, σ', h3, h4⟩ := ihy (2 * pos + 1) _ K r h1
        refine ⟨e, σ', h3, fun rr nn B a w hR hB hS => wpIn_seq (wpIn_mono (h2 rr nn B a w (hR.imp id noR_l) hB hS) fun z a' w' hz => ?_)⟩
        obtain ⟨rfl, hz⟩ := hz
        exact h4 rr nn B a' w' (hR.imp id noR_r) hB hz
  | cond c x y ihx ihy =>
    intro pos σ K r hk
    have hk' : (asBool (aeval σ.tmps c) fun t => bsp t (acode P Γ ann trims k x (2 * pos) σ K) (acode P Γ ann trims k y (2 * pos + 1) σ K)) = some r := hk
    obtain ⟨t, ht, hk'⟩ := asBool_inv hk'
    have hc : ∀ B a w, Sim B σ a w → a.eval c = .bool t := by
      intro B a w hS
      obtain ⟨J, M, st, hs, hv, hd⟩ := hS
      have := eval_rel hs hv c
      rw [ht] at this
      exact V_bool this
    rcases bsp_inv hk' with ⟨rfl, hk'⟩ | ⟨rfl, hk'⟩
    · obtain ⟨e, σ', h1, h2⟩ := ihx _ _ _ _ hk'
      exact ⟨e, σ', h1, fun rr nn B a w hR hB hS => wpIn_cond_true (hc B a w hS) (h2 rr nn B a w (hR.imp id noR_l) hB hS)⟩
    · obtain ⟨e, σ', h1, h2⟩ := ihy _ _ _ _ hk'
      exact ⟨e, σ', h1, fun rr nn B a w hR hB hS => wpIn_cond_false (hc B a w hS) (h2 rr nn B a w (hR.imp id noR_r) hB hS)⟩
  | block id c ih =>
    intro pos σ K r hk
    obtain ⟨e, σ1, h1, h2⟩ := ih (2 * pos) σ _ r (show acode P Γ ann trims k c (2 * pos) σ (blkK id K) = some r from hk)
    cases e with
    | normal =>
      refine ⟨.normal, σ1, h1, fun rr nn B a w hR hB hS => wpIn_block (wpIn_mono (h2 rr nn B a w hR hB hS) fun z a' w' hz => ?_)⟩
      obtain ⟨rfl, hz⟩ := hz
      exact ⟨rfl, hz⟩
    | exit i =>
      rcases bsq_inv (show bsq (Nat.beq i id) (K .normal σ1) (K (.exit i) σ1) = some r from h1) with ⟨hi, h3⟩ | ⟨hi, h3⟩
      · have := Nat.eq_of_beq_eq_true hi
        subst this
        refine ⟨.normal, σ1, h3, fun rr nn B a w hR hB hS => wpIn_block (wpIn_mono (h2 rr nn B a w hR hB hS) fun z a' w' hz => ?_)⟩
        obtain ⟨rfl, hz⟩ := hz
        simp only [Exit.inBlock, if_true]
        exact ⟨rfl, hz⟩
      · refine ⟨.exit i, σ1, h3, fun rr nn B a w hR hB hS => wpIn_block (wpIn_mono (h2 rr nn B a w hR hB hS) fun z a' w' hz => ?_)⟩
        obtain ⟨rfl, hz⟩ := hz
        have hne : i ≠ id := by
          intro e
          subst e
          rw [Nat.beq_refl] at hi
          cases hi
        simp only [Exit.inBlock, hne, if_false]
        exact ⟨rfl, hz⟩
    | ret =>
      refine ⟨.ret, σ1, h1, fun rr nn B a w hR hB hS => wpIn_block (wpIn_mono (h2 rr nn B a w hR hB hS) fun z a' w' hz => ?_)⟩
      obtain ⟨rfl, hz⟩ := hz
      exact ⟨rfl, hz⟩
    | pan v =>
      refine ⟨.pan v, σ1, h1, fun rr nn B a w hR hB hS => wpIn_block (wpIn_mono (h2 rr nn B a w hR hB hS) fun z a' w' hz => ?_)⟩
      obtain ⟨J, M, u, rfl, hz⟩ := hz
      exact ⟨J, M, u, rfl, hz⟩
  | loop c ih =>
    intro pos σ K r hk
    obtain ⟨e, σ', h1, h2⟩ := aloop_sound (P := P) (c := c) (ann := ann) (fun σ K r hk => ih (2 * pos) σ K r hk) k _ K r
      (show aloop (acode P Γ ann trims k c (2 * pos)) (clrA ann (2 * pos)) (trimOf trims (2 * pos)) σ.heap.length k (clrA ann (2 * pos) σ) K = some r from hk)
    refine ⟨e, σ', h1, fun rr nn B a w hR hB hS => wpIn_loop_rounds k (h2 rr nn B a w hR hB ?_ (clrA_sim hS ann _))⟩
    obtain ⟨J, M, st, _⟩ := hS
    exact st.len
  | rangeFunc g ps a b iha ihb =>
    intro pos σ K r hk
    have hk : (rfA Γ (aeval σ.tmps g) fun p => prm ps fun i j => bsq (noR a && noR b)
      (ldv σ.heap p fun s => bkn s fun m => bkl (fun σ K => acode P Γ ann trims k a (2 * pos) σ (asgK (acode P Γ ann trims k b (2 * pos + 1)) (hasA ann (2 * pos + 1)) (clrA ann (2 * pos + 1)) K)) p i j (clrA ann pos σ).tmps m σ.heap K) none) = some r := hk
    unfold rfA at hk
    split at hk
    case h_2 => cases hk
    rename_i f p hg
    split at hk
    case h_2 => cases hk
    rename_i hf
    unfold prm at hk
    split at hk
    case h_2 => cases hk
    rename_i i j hps
    rcases bsq_inv hk with ⟨hno, hk⟩ | ⟨_, hk⟩
    case inr => cases hk
    obtain ⟨s, hs, hk⟩ := ldv_inv hk
    obtain ⟨m, hm, hk⟩ := bkn_inv hk
    obtain ⟨h', hK, H⟩ := bkl_sound (P := P) (a := a) (b := b) (fun σ K r hk => iha (2 * pos) σ K r hk) (fun σ K r hk => ihb (2 * pos + 1) σ K r hk) m σ.heap hk
    exact ⟨.normal, _, hK, range_sound good hg hf hps hno hs hm H⟩
  | exit id => exact fun pos σ K r hk => ⟨.exit id, σ, hk, fun rr nn B a w _ _ hS => wpIn_exit ⟨rfl, hS⟩⟩
  | scope c ih => intro pos σ K r hk; cases hk
  | label => intro pos σ K r hk; cases hk
  | goto => intro pos σ K r hk; cases hk
  | ret => exact fun pos σ K r hk => ⟨.ret, σ, hk, fun rr nn B a w _ _ hS => wpIn_ret ⟨rfl, hS⟩⟩
  | refuse => intro pos σ K r hk; cases hk
end
end Go.Proofs.Ytknphnmhjmejaaa
