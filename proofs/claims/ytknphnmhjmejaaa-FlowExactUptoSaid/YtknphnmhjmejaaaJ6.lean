/- Joined texts: AmSk, AmSj, Def, Base. No conditions but those of each. -/
import Derived.Test.YtknphnmhjmejaaaJ5
import Derived.Shelf.Abstract
import Derived.RangeFuncIn
import Derived.Recover
import Derived.Test.YtknphnmhjmejaaaProg
/-  The abstract machine's control. No conditions. -/
namespace Go.Proofs.Ytknphnmhjmejaaa
set_option linter.unusedVariables false
set_option linter.unusedSimpArgs false
section
variable {P : Program} {Γ : FuncId → Option Callee} {ops : Array Oper} {R : Type}
/-! ### Control -/
theorem regA_sound (hm : P.follows .mixedOrders = true) (good : Good P Γ) {id : Nat} {draw : Bool} {σ : St} {K : Cont R} {r : R} (hk : regA P Γ ops draw σ K = some r) :
    ∃ e σ', K e σ' = some r ∧ ∀ rr nn B a w, Sim B σ a w → (Code.region id ops draw).wpIn (FW rr) nn P (ExQ B e σ') a w := by
  rw [regA_eq] at hk
  rcases bsq_inv hk with ⟨hdr, hk1⟩ | ⟨hdr, hk1⟩
  · rcases bsq_inv hk1 with ⟨hd, hk2⟩ | ⟨_, hk2⟩
    · rcases bsq_inv hk2 with ⟨_, hk2⟩ | ⟨_, hk2⟩
      case inr => cases hk2
      replace hd := drawQ_ok Γ ops hd
      simp only [drawOk, Bool.and_eq_true, Region.lexB] at hd
      obtain ⟨⟨_, hl⟩, hc⟩ := hd
      rw [List.range_eq_range'] at hk2
      have hcl : Closed ops (Array.replicate ops.size false) := by
        intro j oj hoj hj
        have := (Array.getElem?_eq_some_iff.1 hoj).1
        simp [Array.getD, this] at hj
      rcases anyA_lex P Γ ops good ops.size 0 (Array.replicate ops.size false) σ (by simp) (by simp) hcl (fun j hj => by omega) hl hc hk2 with ⟨σf, hK, hA⟩ | ⟨σf, v, h', hK, hP, hA⟩
      · refine ⟨.normal, σf, hK, fun rr nn B a w hS => ?_⟩
        rw [hdr]
        refine wpIn_region_any hm (anyA_sound good _ _ σ a _ hA ?_)
        obtain ⟨J, M, st, hs, hv, hd⟩ := hS
        exact ⟨J, M, st.trans (Stp.drew st.hr), hs, hv, hd⟩
      · refine ⟨.pan v, _, hK, fun rr nn B a w hS => ?_⟩
        rw [hdr]
        refine wpIn_region_any hm (anyB_sound good hP.1 _ _ σ a _ hA ?_)
        obtain ⟨J, M, st, hs, hv, hd⟩ := hS
        exact ⟨J, M, st.trans (Stp.drew st.hr), hs, hv, hd⟩
    · rcases bsq_inv hk2 with ⟨_, hk2⟩ | ⟨_, hk2⟩
      case inr =>
        obtain ⟨σf, hK, hA⟩ := regF_any good hk2
        refine ⟨.normal, σf, hK, fun rr nn B a w hS => ?_⟩
        rw [hdr]
        refine wpIn_region_any hm (hA rr nn B a _ ?_)
        obtain ⟨J, M, st, hs, hv, hd⟩ := hS
        exact ⟨J, M, st.trans (Stp.drew st.hr), hs, hv, hd⟩
      rcases regW_any good hk2 with ⟨σf, hK, hA⟩ | ⟨σf, v, h', hK, hP, hA⟩
      · refine ⟨.normal, σf, hK, fun rr nn B a w hS => ?_⟩
        rw [hdr]
        refine wpIn_region_any hm (anyA_sound good _ _ σ a _ hA ?_)
        obtain ⟨J, M, st, hs, hv, hd⟩ := hS
        exact ⟨J, M, st.trans (Stp.drew st.hr), hs, hv, hd⟩
      · refine ⟨.pan v, _, hK, fun rr nn B a w hS => ?_⟩
        rw [hdr]
        refine wpIn_region_any hm (anyB_sound good hP.1 _ _ σ a _ hA ?_)
        obtain ⟨J, M, st, hs, hv, hd⟩ := hS
        exact ⟨J, M, st.trans (Stp.drew st.hr), hs, hv, hd⟩
  · obtain ⟨e, σ', hK, hw⟩ := aopsIn_sound good _ σ K r hk1
    exact ⟨e, σ', hK, fun rr nn B a w hS => by rw [hdr]; exact wpIn_region (hw rr nn B a w hS)⟩
end
theorem clrA_heap (ann : Ann) (pos : Nat) (σ : St) : (clrA ann pos σ).heap = σ.heap := by
  unfold clrA; split <;> rfl
theorem clrA_sim {B : Bs} {σ : St} {a : Act} {w : World} (hS : Sim B σ a w) (ann : Ann) (pos : Nat) : Sim B (clrA ann pos σ) a w := by
  unfold clrA
  split
  · rename_i x _
    obtain ⟨J, M, st, hs, hv, hd⟩ := hS
    refine ⟨J, M, st, by rw [hs]; exact (keepA_length _ _ _).symm, Vs_iff.2 fun i y hy => ?_, hd⟩
    rcases keepA_get _ _ _ _ _ hy with rfl | hy'
    · have hlt := (List.getElem?_eq_some_iff.1 hy).1
      rw [keepA_length, ← hs] at hlt
      exact ⟨a.tmps[i], by simp [hlt], by simp [V]⟩
    · exact Vs_iff.1 hv _ _ hy'
  · exact hS
theorem clrA_vs {J M} {σ : St} {tm : Array Value} (hs : tm.size = σ.tmps.length) (hv : Vs J M σ.tmps (fun i => tm[i]?)) (ann : Ann) (pos : Nat) : tm.size = (clrA ann pos σ).tmps.length ∧ Vs J M (clrA ann pos σ).tmps (fun i => tm[i]?) := by
  unfold clrA
  split
  · rename_i x _
    refine ⟨by rw [hs]; exact (keepA_length _ _ _).symm, Vs_iff.2 fun i y hy => ?_⟩
    rcases keepA_get _ _ _ _ _ hy with rfl | hy'
    · have hlt := (List.getElem?_eq_some_iff.1 hy).1
      rw [keepA_length, ← hs] at hlt
      exact ⟨tm[i], by simp [hlt], by simp [V]⟩
    · exact Vs_iff.1 hv _ _ hy'
  · exact ⟨hs, hv⟩
theorem trm_inv {R : Type} {n : Nat} {ts : List AV} {h : Hp} {K : Hp → Option R} {r : R} (hk : trm n ts h K = some r) : belL n ts = true ∧ (∀ ob, ob ∈ h.take n → belL n ob.cells = true) ∧ K (h.take n) = some r := by
  unfold trm at hk
  split at hk
  · rename_i hc
    exact ⟨hc.1, fun ob ho => List.all_eq_true.1 hc.2 ob ho, hk⟩
  · cases hk
theorem take_get {h : Hp} {n o : Nat} {ob : Ob} (ho : (h.take n)[o]? = some ob) : o < n ∧ h[o]? = some ob := by
  rw [List.getElem?_take] at ho
  split at ho
  · exact ⟨‹_›, ho⟩
  · cases ho
theorem HR.cut {J M h w} (r : HR J M h w) (n : Nat) (hb : ∀ ob, ob ∈ h.take n → belL n ob.cells = true) : HR (cutJ n J) M (h.take n) w := by
  have hj : ∀ o q e, cutJ n J o q = some e → o < n ∧ J o q = some e := by
    intro o q e k
    unfold cutJ at k
    split at k
    · exact ⟨‹_›, k⟩
    · cases k
  refine ⟨?_, ?_, ?_, r.im, ?_⟩
  · intro o ob ho
    obtain ⟨hlt, ho'⟩ := take_get ho
    rcases r.ob0 o ob ho' with hd | ⟨e, c, t, he, hs, hbk, hn, hv⟩
    · exact .inl fun q => by
        simp only [cutJ, if_pos hlt]
        exact hd q
    exact .inr ⟨e, c, t, by simp [cutJ, hlt, he], hs, hbk, hn, Vs_cut n _ _ (hb ob (List.mem_of_getElem? ho)) hv⟩
  · intro o q e k
    obtain ⟨hlt, k⟩ := hj _ _ _ k
    obtain ⟨ob, hob, hle⟩ := r.key _ _ _ k
    exact ⟨ob, by rw [List.getElem?_take, if_pos hlt]; exact hob, hle⟩
  · intro o1 o2 ob1 ob2 e1 e2 h1 h2 k1 k2 hbb
    exact r.inj _ _ _ _ _ _ (take_get h1).2 (take_get h2).2 (hj _ _ _ k1).2 (hj _ _ _ k2).2 hbb
  · intro a v o ob e k ho he
    exact r.sep _ _ _ _ _ k (take_get ho).2 (hj _ _ _ he).2
theorem trim_sim {B : Bs} {ts : List AV} {h : Hp} {a : Act} {w : World} {n : Nat} (hS : Sim B ⟨ts, h⟩ a w) (hn : B.h.length ≤ n) (h1 : belL n ts = true) (h2 : ∀ ob, ob ∈ h.take n → belL n ob.cells = true) (hkey : ∀ o q e, B.J o q = some e → o < B.h.length) :
    Sim B ⟨ts, h.take n⟩ a w := by
  obtain ⟨J, M, st, hs, hv, hd⟩ := hS
  refine ⟨cutJ n J, M, ⟨?_, st.mle, st.hr.cut n h2, ?_, st.fr, st.mnew, ?_, fun o q e k => ?_⟩, hs, Vs_cut n _ _ h1 hv, hd⟩
  · intro o q e k
    have := hkey _ _ _ k
    simp only [cutJ]
    rw [if_pos (by omega)]
    exact st.jle _ _ _ k
  · have := st.len
    simp only [List.length_take] at this ⊢
    omega
  · rintro b ⟨o, ob, e, ho, he, rfl⟩
    obtain ⟨hlt, ho'⟩ := take_get ho
    unfold cutJ at he
    rw [if_pos hlt] at he
    exact st.onew _ ⟨o, ob, e, ho', he, rfl⟩
  · unfold cutJ at k
    split at k
    · exact st.jfr o q e k
    · cases k
def Bs.ok (B : Bs) : Prop := ∀ o q e, B.J o q = some e → o < B.h.length
section
variable {P : Program} {Γ : FuncId → Option Callee} {R : Type} {ann : Ann} {trims : List Nat} {k : Nat}
/-- A piece of code: what it comes to of all that its state stands for. -/
def CSnd (P : Program) (c : Code) (σ : St) (e : AE) (σ' : St) : Prop := ∀ rr nn B a w, ((rr = none ∧ B.rng = true) ∨ noR c = true) → B.ok → Sim B σ a w → c.wpIn (FW rr) nn P (ExQ B e σ') a w
theorem CSnd.plain {P : Program} {c : Code} {σ : St} {e : AE} {σ' : St} (h : CSnd P c σ e σ') (hn : noR c = true) (B : Bs) (a : Act) (w : World) (hB : B.ok) (hS : Sim B σ a w) : c.wp P (ExQ B e σ') a w := wpIn_wide (n := 0).1 (h none 0 B a w (.inr hn) hB hS)
theorem noR_l {a b : Bool} (h : (a && b) = true) : a = true := (Bool.and_eq_true_iff.1 h).1
theorem noR_r {a b : Bool} (h : (a && b) = true) : b = true := (Bool.and_eq_true_iff.1 h).2
/-- The rounds of a range over what 'Backward' hands back. -/
inductive BkA (P : Program) (a b : Code) (p : AV) (i j : Nat) (ts : List AV) : Nat → Hp → Hp → Prop
  | done (h : Hp) : BkA P a b p i j ts 0 h h
  | next (n : Nat) (h h2 : Hp) (s q : AV) (x : Int) (σ1 σ2 : St) (hs : cellAt h p 0 = some s) (hq : ixa 1 s n some = some q) (hx : cellAt h q 0 = some (ai x)) (ha : CSnd P a ⟨(ts.set i (ai n)).set j (ai x), h⟩ .normal σ1) (hb : CSnd P b σ1 .normal σ2) (hn : BkA P a b p i j ts n σ2.heap h2) :
      BkA P a b p i j ts (n + 1) h h2
theorem CSnd.clr {P : Program} {c : Code} {σ σ' : St} (h : CSnd P c σ .normal σ') (ann : Ann) (pos : Nat) : CSnd P c σ .normal (clrA ann pos σ') :=
  fun rr nn B a w hR hB hS => wpIn_mono (h rr nn B a w hR hB hS) fun x a' w' hx => ⟨hx.1, clrA_sim hx.2 ann pos⟩
theorem ixa_inv {R : Type} {n : Nat} {s : AV} {i : Int} {K : AV → Option R} {r : R} (hk : ixa n s i K = some r) : ∃ q, ixa n s i some = some q ∧ K q = some r := by
  unfold ixa at hk ⊢
  split at hk
  · split at hk
    · rename_i hc
      exact ⟨_, by simp only [if_pos hc], hk⟩
    · cases hk
  · split at hk
    · rename_i hc
      exact ⟨_, by simp only [if_pos hc], hk⟩
    · cases hk
  · cases hk
theorem bkn_inv {R : Type} {s : AV} {K : Nat → Option R} {r : R} (hk : bkn s K = some r) : ∃ m, bkn s some = some m ∧ K m = some r := by
  unfold bkn lna at hk ⊢
  split at hk <;> (first | cases hk | skip)
  all_goals
    simp only at hk ⊢
    split at hk
    · rename_i hc
      exact ⟨_, by rw [if_pos hc], hk⟩
    · cases hk
theorem bkl_sound {a b : Code} {fa fb : St → Cont R → Option R} (hfa : ∀ σ K r, fa σ K = some r → ∃ e σ', K e σ' = some r ∧ CSnd P a σ e σ') (hfb : ∀ σ K r, fb σ K = some r → ∃ e σ', K e σ' = some r ∧ CSnd P b σ e σ') {mk : Bool} {pos : Nat} {p : AV} {i j : Nat} {ts : List AV} {K : Cont R} {r : R} :
    ∀ (m : Nat) (h : Hp), bkl (fun σ K => fa σ (asgK fb mk (clrA ann pos) K)) p i j ts m h K = some r → ∃ h', K .normal ⟨ts, h'⟩ = some r ∧ BkA P a b p i j ts m h h'
  | 0, h, hk => ⟨h, hk, .done h⟩
  | m + 1, h, hk => by
    obtain ⟨s, hs, hk⟩ := ldv_inv (show ldv h p (fun s => ixa 1 s m fun q => ldi .i64 h q fun x => fcd (tset (tset ts i (ai m)) j (ai x)) fun us => fa ⟨us, h⟩ (asgK fb mk (clrA ann pos) (bkK (fun h K => bkl (fun σ K => fa σ (asgK fb mk (clrA ann pos) K)) p i j ts m h K) K))) = some r from hk)
    obtain ⟨q, hq, hk⟩ := ixa_inv hk
    unfold ldi at hk
    obtain ⟨y, hy, hk⟩ := ldv_inv hk
    rw [asInt0_eq] at hk
    obtain ⟨x, hyx, hk2⟩ := asInt_inv hk
    subst hyx
    clear hk
    rw [fcd_eq, tset_eq, tset_eq] at hk2
    obtain ⟨e, σ1, hk, ha⟩ := hfa _ _ _ hk2
    cases e with
    | normal =>
      have step : ∀ σ1, CSnd P a ⟨(ts.set i (ai m)).set j (ai x), h⟩ .normal σ1 → fb σ1 (bkK (fun h K => bkl (fun σ K => fa σ (asgK fb mk (clrA ann pos) K)) p i j ts m h K) K) = some r → ∃ h', K .normal ⟨ts, h'⟩ = some r ∧ BkA P a b p i j ts (m + 1) h h' := by
        intro σ1 ha hk
        obtain ⟨e, σ2, hk, hb⟩ := hfb _ _ _ hk
        cases e with
        | normal =>
          obtain ⟨h', hK, hn⟩ := bkl_sound hfa hfb m σ2.heap hk
          exact ⟨h', hK, .next m h h' s q x σ1 σ2 hs hq hy ha hb hn⟩
        | exit i => cases hk
        | ret => cases hk
        | pan v => cases hk
      rcases bsq_inv (show bsq mk (pnt fb (clrA ann pos σ1) _) (fb σ1 _) = some r from hk) with ⟨_, hk⟩ | ⟨_, hk⟩
      · exact step _ (ha.clr ann pos) hk
      · exact step _ ha hk
    | exit i => cases hk
    | ret => cases hk
    | pan v => cases hk
theorem aloop_sound {c : Code} {body : St → Cont R → Option R} (hbody : ∀ σ K r, body σ K = some r → ∃ e σ', K e σ' = some r ∧ CSnd P c σ e σ') {pos : Nat} {tr : Bool} {n0 : Nat} :
    ∀ (n : Nat) (σ : St) (K : Cont R) (r : R), aloop body (clrA ann pos) tr n0 n σ K = some r → ∃ e σ', K e σ' = some r ∧ ∀ rr nn B a w, ((rr = none ∧ B.rng = true) ∨ noR c = true) → B.ok → B.h.length ≤ n0 → Sim B σ a w → Code.roundsIn (FW rr) nn P c (ExQ B e σ') n a w
  | 0, σ, K, r, hk => by cases hk
  | n + 1, σ, K, r, hk => by
    obtain ⟨e, σ1, h1, h2⟩ := hbody σ (itL (aloop body (clrA ann pos) tr n0 n) (clrA ann pos) tr n0 K) r hk
    have other : e ≠ .normal → K e σ1 = some r → ∃ e σ', K e σ' = some r ∧ ∀ rr nn B a w, ((rr = none ∧ B.rng = true) ∨ noR c = true) → B.ok → B.h.length ≤ n0 → Sim B σ a w → Code.roundsIn (FW rr) nn P c (ExQ B e σ') (n + 1) a w := by
      intro hne hK
      refine ⟨e, σ1, hK, fun rr nn B a w hR hB hl hS => wpIn_mono (h2 rr nn B a w hR hB hS) fun x a' w' hx => ?_⟩
      cases e with
      | normal => exact absurd rfl hne
      | exit i => obtain ⟨rfl, hx⟩ := hx; exact ⟨rfl, hx⟩
      | ret => obtain ⟨rfl, hx⟩ := hx; exact ⟨rfl, hx⟩
      | pan v => obtain ⟨J, M, u, rfl, hx⟩ := hx; exact ⟨J, M, u, rfl, hx⟩
    cases e with
    | exit i => exact other (by simp) h1
    | ret => exact other (by simp) h1
    | pan v => exact other (by simp) h1
    | normal =>
      cases tr with
      | true =>
        obtain ⟨hb1, hb2, h1⟩ := trm_inv (show trm n0 (clrA ann pos σ1).tmps σ1.heap (fun h => aloop body (clrA ann pos) true n0 n ⟨(clrA ann pos σ1).tmps, h⟩ K) = some r from h1)
        obtain ⟨e, σ', hK, hRd⟩ := aloop_sound hbody n _ K r h1
        refine ⟨e, σ', hK, fun rr nn B a w hR hB hl hS => wpIn_mono (h2 rr nn B a w hR hB hS) fun x a' w' hx => ?_⟩
        obtain ⟨rfl, hx⟩ := hx
        have hc := clrA_sim hx ann pos
        refine hRd rr nn B a' w' hR hB hl (trim_sim (h := σ1.heap) ?_ hl hb1 hb2 hB)
        have hh := clrA_heap ann pos σ1
        rw [← hh]
        exact hc
      | false =>
        obtain ⟨e, σ', hK, hRd⟩ := aloop_sound hbody n (clrA ann pos σ1) K r h1
        refine ⟨e, σ', hK, fun rr nn B a w hR hB hl hS => wpIn_mono (h2 rr nn B a w hR hB hS) fun x a' w' hx => ?_⟩
        obtain ⟨rfl, hx⟩ := hx
        exact hRd rr nn B a' w' hR hB hl (clrA_sim hx ann pos)
theorem BkA.run {a b : Code} {p : AV} {i j : Nat} {ts : List AV} {m : Nat} {h h' : Hp} (H : BkA P a b p i j ts m h h') (hno : (noR a && noR b) = true) {B : Bs} {l : Nat} {rl : Loop} (h1 : rl.state = .ready) (h2 : rl.pending = none) (h3 : rl.params = #[i, j]) (h4 : rl.assign = a) (h5 : rl.body = b) (hsz : rl.tmps.size = ts.length) (hv : Vs B.J B.M ts (fun i => rl.tmps[i]?)) :
    BkR P B l rl p m h h' := by
  induction H with
  | done h => exact .done h
  | next n h h2' s q x σ1 σ2 hs hq hx ha hb hn ih =>
    refine .next n h σ2.heap h2' s q x hs hq hx (fun nn J M w st hl => ?_) ih
    have hok : ∀ (J : Jm) (M : Mm) (h : Hp) (w : World) (D : List Deferred), HR J M h w → (⟨J, M, h, w, D, false⟩ : Bs).ok := by
      intro J M h w D hr o q e k
      obtain ⟨ob, hob, _⟩ := hr.key _ _ _ k
      exact (List.getElem?_eq_some_iff.1 hob).1
    refine roundIn_of_wpIn trivial ?_
    have hT : (rl.params.zip #[.int .i64 n, .int .i64 x]).foldl (fun tmps (t, a) => tmps.setIfInBounds t a) rl.tmps = (rl.tmps.setIfInBounds i (.int .i64 n)).setIfInBounds j (.int .i64 x) := by
      rw [h3]; simp
    rw [hT, h4, h5]
    refine wpIn_mono (ha (some l) nn ⟨J, M, h, w, [], false⟩ _ w (.inr (noR_l hno)) (hok _ _ _ _ _ st.hr) ⟨J, M, Stp.refl st.hr, by simp [hsz], ?_, DMk.none⟩) fun e a1 w1 hx1 => ?_
    · have hv0 := Vs_mono st.jle st.mle _ _ _ (fun _ _ k => k) hv
      have hv1 := Vs_set hsz hv0 i (V_int' (J := J) (M := M) .i64 n)
      exact Vs_set (by simp [hsz]) hv1 j (V_int' (J := J) (M := M) .i64 x)
    · obtain ⟨rfl, J1, M1, st1, hs1, hv1, hd1⟩ := hx1
      have hl1 : w1.heap[l]? = some (.loop rl) := st1.keeps st.hr hl (nc_loop rl)
      refine ⟨w1.putObj l (.loop { rl with state := .busy }), run_beginRound hl1 h1, ?_⟩
      have hr2 := st1.hr.far (.loop { rl with state := .busy }) hl1 (nc_loop rl)
      refine wpIn_mono (hb (some l) nn ⟨J1, M1, σ1.heap, w1.putObj l (.loop { rl with state := .busy }), a1.defers, false⟩ a1 _ (.inr (noR_r hno)) (hok _ _ _ _ _ hr2) ⟨J1, M1, Stp.refl hr2, hs1, hv1, DMk.none⟩) fun e a3 w3 hx3 => ?_
      obtain ⟨rfl, J3, M3, st3, _⟩ := hx3
      have hl2 : (w1.putObj l (.loop { rl with state := .busy })).heap[l]? = some (.loop { rl with state := .busy }) := World.putObj_heap_same (lt_of_cells hl1)
      have hl3 : w3.heap[l]? = some (.loop { rl with state := .busy }) := st3.keeps hr2 hl2 (nc_loop _)
      refine ⟨_, _, run_endRound none hl3, rfl, J3, M3, ?_⟩
      have hback : ({ { rl with state := .busy } with state := if (none : Option Code).isNone then .ready else .done, pending := none } : Loop) = rl := by
        cases rl
        simp_all
      rw [hback]
      exact st1.round hl (nc_loop rl) (nc_loop _) st3 hl3
theorem range_sound (good : Good P Γ) {g : Operand} {ps : Array Tmp} {a b : Code} {σ : St} {f : FuncId} {p s : AV} {i j m : Nat} {h' : Hp} {pos : Nat} (hg : aeval σ.tmps g = .func f [] [p]) (hf : Γ f = some .back) (hps : ps.toList = [i, j]) (hno : (noR a && noR b) = true)
    (hs : cellAt σ.heap p 0 = some s) (hm : bkn s some = some m) (H : BkA P a b p i j (clrA ann pos σ).tmps m σ.heap h') : CSnd P (.rangeFunc g ps a b) σ .normal ⟨(clrA ann pos σ).tmps, h'⟩ := by
  intro rr nn B a0 w hR hB hS
  obtain ⟨hrr, hrng⟩ := hR.resolve_right (by intro h; cases h)
  subst hrr
  obtain ⟨hent, st', ti, tb, ty, te, fn, by_, hback⟩ := good f _ hf
  have hps' : ps = #[i, j] := by rw [← Array.toList_inj]; exact hps
  obtain ⟨J, M, st, hsz, hv, hd⟩ := hS
  obtain ⟨hszc, hvc⟩ := clrA_vs hsz hv ann pos
  obtain ⟨us, vs, hgv, ⟨hus, _⟩, hvs, hvp⟩ := (by
    have := eval_rel hsz hv g
    rw [hg] at this
    simpa only [V] using this : ∃ us vs : Array Value, a0.eval g = .func (.func f) us vs ∧ (us.size = ([] : List AV).length ∧ Vs J M ([] : List AV) (fun i => us[i]?)) ∧ vs.size = [p].length ∧ Vs J M [p] (fun i => vs[i]?))
  have hus0 : us = #[] := Array.eq_empty_of_size_eq_zero hus
  subst hus0
  obtain ⟨pv, hpv, hp⟩ := Vs_iff.1 hvp 0 p rfl
  have hvs0 : vs = #[pv] := by
    apply Array.ext_getElem?
    intro i
    match i with
    | 0 => simpa using hpv
    | i + 1 => rw [Array.getElem?_eq_none (by simp [hvs])]; simp
  subst hvs0
  refine wpIn_rangeFunc fun fnid _ => ?_
  have st1 := Stp.laid st.hr (.deferred (some []))
  have st2 := Stp.laid st1.hr (.loop { state := .ready, pending := none, fn := fnid, tmps := a0.tmps, params := ps, assign := a, body := b, defers := w.heap.size })
  generalize hrl : ({ state := .ready, pending := none, fn := fnid, tmps := a0.tmps, params := ps, assign := a, body := b, defers := w.heap.size } : Loop) = rl at st2
  have hsize1 : (w.alloc (.deferred (some []))).heap.size = w.heap.size + 1 := by
    show (w.heap.push _).size = _
    simp
  have hD2 : ((w.alloc (.deferred (some []))).alloc (.loop rl)).heap[w.heap.size]? = some (.deferred (some [])) := by
    rw [heap_old _ _ (by omega)]
    exact heap_new w _
  have hl2 : ((w.alloc (.deferred (some []))).alloc (.loop rl)).heap[w.heap.size + 1]? = some (.loop rl) := by
    rw [← hsize1]
    exact heap_new _ _
  have hHR := st2.hr
  have hent' := run_enterLoop_outer (P := P) (w := w) fnid a0.tmps ps a b
  rw [hrl] at hent'
  have H2 := BkA.run H hno (B := ⟨J, M, σ.heap, (w.alloc (.deferred (some []))).alloc (.loop rl), [], false⟩) (l := w.heap.size + 1) (rl := rl) (by subst hrl; rfl) (by subst hrl; rfl) (by subst hrl; exact hps') (by subst hrl; rfl) (by subst hrl; rfl) (by subst hrl; exact hszc) (by subst hrl; exact hvc)
  refine ⟨w.heap.size + 1, [{ target := .collected w.heap.size, args := #[] }], (w.alloc (.deferred (some []))).alloc (.loop rl), { target := .fn (.func f) #[pv], args := #[.func (.yield (w.heap.size + 1)) #[] #[]] }, (w.alloc (.deferred (some []))).alloc (.loop rl), f, #[.func (.yield (w.heap.size + 1)) #[] #[], pv], (w.alloc (.deferred (some []))).alloc (.loop rl), hent', ?_, fun _ _ => trivial, ?_, fun h => (by cases h), ?_⟩
  · have hc : ∀ v, a0.eval (.const v) = v := fun _ => rfl
    simp [rangeCall, resolve, hgv, hc, Deferred.ofValue]
  · exact hent _ _
  · refine (back_calls hback hHR hl2 (by subst hrl; simp [hps']) hs hm H2 hp (nn - 1)).mono fun e w3 he => ?_
    obtain ⟨⟨v, rfl⟩, J', M', st3⟩ := he
    have hl3 := st3.keeps hHR hl2 (nc_loop rl)
    have hD3 := st3.keeps hHR hD2 (nc_def _)
    have h1 : rl.state = .ready := by subst hrl; rfl
    have h2 : rl.pending = none := by subst hrl; rfl
    refine ⟨rl.pending, _, run_endLoop hl3 (by rw [h1]; decide), ?_⟩
    have hall := (st.trans st1).trans (st2.trans st3)
    have hstp := st1.trans (st2.trans st3)
    have hfin := hall.far (l := w.heap.size + 1) (Nat.le_trans st.fr.size (by omega)) (.loop { rl with state := .exhausted }) hl3 (nc_loop rl)
    rw [h2] at hfin ⊢
    refine ⟨rfl, J', M', hfin, hszc, Vs_mono hstp.jle hstp.mle _ _ _ (fun _ _ k => k) hvc, ?_⟩
    obtain ⟨ds, e1, e2, e3, _⟩ := hd
    have hlt : ∀ D ∈ ds, D < w.heap.size := fun D hD => lt_of_cells (e3 D hD).2
    refine ⟨w.heap.size :: ds, by rw [e1]; rfl, ?_, fun D hD => ?_, .inr hrng⟩
    · rw [List.nodup_cons]
      exact ⟨fun h => absurd (hlt _ h) (by omega), e2⟩
    · rcases List.mem_cons.1 hD with rfl | hD
      · exact ⟨st.fr.size, by rw [World.putObj_heap_other (by omega)]; exact hD3⟩
      · refine ⟨(e3 D hD).1, ?_⟩
        rw [World.putObj_heap_other (by have := hlt D hD; omega)]
        exact hstp.keeps st.hr (e3 D hD).2 (nc_def _)
theorem acode_sound (hm : P.follows .mixedOrders = true) (good : Good P Γ) (c : Code) : ∀ (pos : Nat) (σ : St) (K : Cont R) (r : R), acode P Γ ann trims k c pos σ K = some r → ∃ e σ', K e σ' = some r ∧ CSnd P c σ e σ' := by
  induction c with
  | skip => exact fun pos σ K r hk => ⟨.normal, σ, hk, fun rr nn B a w _ _ hS => wpIn_skip ⟨rfl, hS⟩⟩
  | region id ops draw =>
    intro pos σ K r hk
    obtain ⟨e, σ', h1, h2⟩ := regA_sound (id := id) hm good (show regA P Γ ops draw σ K = some r from hk)
    exact ⟨e, σ', h1, fun rr nn B a w _ _ hS => h2 rr nn B a w hS⟩
  | seq x y ihx ihy =>
    intro pos σ K r hk
    obtain ⟨e, σ1, h1, h2⟩ := ihx (2 * pos) σ _ r (show acode P Γ ann trims k x (2 * pos) σ (seqK (acode P Γ ann trims k y (2 * pos + 1)) (hasA ann (2 * pos + 1)) (clrA ann (2 * pos + 1)) K) = some r from hk)
    have other : e ≠ .normal → K e σ1 = some r → ∃ e σ', K e σ' = some r ∧ CSnd P (.seq x y) σ e σ' := by
      intro hne hK
      refine ⟨e, σ1, hK, fun rr nn B a w hR hB hS => wpIn_seq (wpIn_mono (h2 rr nn B a w (hR.imp id noR_l) hB hS) fun z a' w' hz => ?_)⟩
      cases e with
      | normal => exact absurd rfl hne
      | exit i => obtain ⟨rfl, hz⟩ := hz; exact ⟨rfl, hz⟩
      | ret => obtain ⟨rfl, hz⟩ := hz; exact ⟨rfl, hz⟩
      | pan v => obtain ⟨J, M, u, rfl, hz⟩ := hz; exact ⟨J, M, u, rfl, hz⟩
    cases e with
    | exit i => exact other (by simp) h1
    | ret => exact other (by simp) h1
    | pan v => exact other (by simp) h1
    | normal =>
      rcases bsq_inv (show bsq (hasA ann (2 * pos + 1)) (acode P Γ ann trims k y (2 * pos + 1) (clrA ann (2 * pos + 1) σ1) K) (acode P Γ ann trims k y (2 * pos + 1) σ1 K) = some r from h1) with ⟨_, h1⟩ | ⟨_, h1⟩
      · obtain ⟨e, σ', h3, h4⟩ := ihy (2 * pos + 1) _ K r h1
        refine ⟨e, σ', h3, fun rr nn B a w hR hB hS => wpIn_seq (wpIn_mono (h2 rr nn B a w (hR.imp id noR_l) hB hS) fun z a' w' hz => ?_)⟩
        obtain ⟨rfl, hz⟩ := hz
        exact h4 rr nn B a' w' (hR.imp id noR_r) hB (clrA_sim hz ann _)
      · obtain ⟨e, σ', h3, h4⟩ := ihy (2 * pos + 1) _ K r h1
        refine ⟨e, σ', h3, fun rr nn B a w hR hB hS => wpIn_seq (wpIn_mono (h2 rr nn B a w (hR.imp id noR_l) hB hS) fun z a' w' hz => ?_)⟩
        obtain ⟨rfl, hz⟩ := hz
        exact h4 rr nn B a' w' (hR.imp id noR_r) hB hz
  | cond c x y ihx ihy =>
    intro pos σ K r hk
    have hk' : (asBool (aeval σ.tmps c) fun t => bsp t (acode P Γ ann trims k x (2 * pos) σ K) (acode P Γ ann trims k y (2 * pos + 1) σ K)) = some r := hk
    obtain ⟨t, ht, hk'⟩ := asBool_inv hk'
    have hc : ∀ B a w, Sim B σ a w → a.eval c = .bool t := by
      intro B a w hS
      obtain ⟨J, M, st, hs, hv, hd⟩ := hS
      have := eval_rel hs hv c
      rw [ht] at this
      exact V_bool this
    rcases bsp_inv hk' with ⟨rfl, hk'⟩ | ⟨rfl, hk'⟩
    · obtain ⟨e, σ', h1, h2⟩ := ihx _ _ _ _ hk'
      exact ⟨e, σ', h1, fun rr nn B a w hR hB hS => wpIn_cond_true (hc B a w hS) (h2 rr nn B a w (hR.imp id noR_l) hB hS)⟩
    · obtain ⟨e, σ', h1, h2⟩ := ihy _ _ _ _ hk'
      exact ⟨e, σ', h1, fun rr nn B a w hR hB hS => wpIn_cond_false (hc B a w hS) (h2 rr nn B a w (hR.imp id noR_r) hB hS)⟩
  | block id c ih =>
    intro pos σ K r hk
    obtain ⟨e, σ1, h1, h2⟩ := ih (2 * pos) σ _ r (show acode P Γ ann trims k c (2 * pos) σ (blkK id K) = some r from hk)
    cases e with
    | normal =>
      refine ⟨.normal, σ1, h1, fun rr nn B a w hR hB hS => wpIn_block (wpIn_mono (h2 rr nn B a w hR hB hS) fun z a' w' hz => ?_)⟩
      obtain ⟨rfl, hz⟩ := hz
      exact ⟨rfl, hz⟩
    | exit i =>
      rcases bsq_inv (show bsq (Nat.beq i id) (K .normal σ1) (K (.exit i) σ1) = some r from h1) with ⟨hi, h3⟩ | ⟨hi, h3⟩
      · have := Nat.eq_of_beq_eq_true hi
        subst this
        refine ⟨.normal, σ1, h3, fun rr nn B a w hR hB hS => wpIn_block (wpIn_mono (h2 rr nn B a w hR hB hS) fun z a' w' hz => ?_)⟩
        obtain ⟨rfl, hz⟩ := hz
        simp only [Exit.inBlock, if_true]
        exact ⟨rfl, hz⟩
      · refine ⟨.exit i, σ1, h3, fun rr nn B a w hR hB hS => wpIn_block (wpIn_mono (h2 rr nn B a w hR hB hS) fun z a' w' hz => ?_)⟩
        obtain ⟨rfl, hz⟩ := hz
        have hne : i ≠ id := by
          intro e
          subst e
          rw [Nat.beq_refl] at hi
          cases hi
        simp only [Exit.inBlock, hne, if_false]
        exact ⟨rfl, hz⟩
    | ret =>
      refine ⟨.ret, σ1, h1, fun rr nn B a w hR hB hS => wpIn_block (wpIn_mono (h2 rr nn B a w hR hB hS) fun z a' w' hz => ?_)⟩
      obtain ⟨rfl, hz⟩ := hz
      exact ⟨rfl, hz⟩
    | pan v =>
      refine ⟨.pan v, σ1, h1, fun rr nn B a w hR hB hS => wpIn_block (wpIn_mono (h2 rr nn B a w hR hB hS) fun z a' w' hz => ?_)⟩
      obtain ⟨J, M, u, rfl, hz⟩ := hz
      exact ⟨J, M, u, rfl, hz⟩
  | loop c ih =>
    intro pos σ K r hk
    obtain ⟨e, σ', h1, h2⟩ := aloop_sound (P := P) (c := c) (ann := ann) (fun σ K r hk => ih (2 * pos) σ K r hk) k _ K r
      (show aloop (acode P Γ ann trims k c (2 * pos)) (clrA ann (2 * pos)) (trimOf trims (2 * pos)) σ.heap.length k (clrA ann (2 * pos) σ) K = some r from hk)
    refine ⟨e, σ', h1, fun rr nn B a w hR hB hS => wpIn_loop_rounds k (h2 rr nn B a w hR hB ?_ (clrA_sim hS ann _))⟩
    obtain ⟨J, M, st, _⟩ := hS
    exact st.len
  | rangeFunc g ps a b iha ihb =>
    intro pos σ K r hk
    have hk : (rfA Γ (aeval σ.tmps g) fun p => prm ps fun i j => bsq (noR a && noR b)
      (ldv σ.heap p fun s => bkn s fun m => bkl (fun σ K => acode P Γ ann trims k a (2 * pos) σ (asgK (acode P Γ ann trims k b (2 * pos + 1)) (hasA ann (2 * pos + 1)) (clrA ann (2 * pos + 1)) K)) p i j (clrA ann pos σ).tmps m σ.heap K) none) = some r := hk
    unfold rfA at hk
    split at hk
    case h_2 => cases hk
    rename_i f p hg
    split at hk
    case h_2 => cases hk
    rename_i hf
    unfold prm at hk
    split at hk
    case h_2 => cases hk
    rename_i i j hps
    rcases bsq_inv hk with ⟨hno, hk⟩ | ⟨_, hk⟩
    case inr => cases hk
    obtain ⟨s, hs, hk⟩ := ldv_inv hk
    obtain ⟨m, hm, hk⟩ := bkn_inv hk
    obtain ⟨h', hK, H⟩ := bkl_sound (P := P) (a := a) (b := b) (fun σ K r hk => iha (2 * pos) σ K r hk) (fun σ K r hk => ihb (2 * pos + 1) σ K r hk) m σ.heap hk
    exact ⟨.normal, _, hK, range_sound good hg hf hps hno hs hm H⟩
  | exit id => exact fun pos σ K r hk => ⟨.exit id, σ, hk, fun rr nn B a w _ _ hS => wpIn_exit ⟨rfl, hS⟩⟩
  | scope c ih => intro pos σ K r hk; cases hk
  | label => intro pos σ K r hk; cases hk
  | goto => intro pos σ K r hk; cases hk
  | ret => exact fun pos σ K r hk => ⟨.ret, σ, hk, fun rr nn B a w _ _ hS => wpIn_ret ⟨rfl, hS⟩⟩
  | refuse => intro pos σ K r hk; cases hk
end
end Go.Proofs.Ytknphnmhjmejaaa
/-  The abstract machine's functions against the model's. No conditions. -/
namespace Go.Proofs.Ytknphnmhjmejaaa
set_option linter.unusedVariables false
section
variable {P : Program} {Γ : FuncId → Option Callee} {ann : Ann} {trims : List Nat} {k : Nat}
def resRun (tm : Array Value) : ResultVar → Sem Value
  | .tmp t => pure (tm.getD t undef)
  | .cell a t => do loadVar t (← asAddr (tm.getD a undef))
theorem resA_sound {J M h w} (hr : HR J M h w) {ts : List AV} {tm : Array Value} (hs : tm.size = ts.length) (hv : Vs J M ts (fun i => tm[i]?)) {rv : ResultVar} {x : AV} (hx : resA P ts h rv = some x) :
    ∃ u, (resRun tm rv).run P w = .ok u w ∧ V J M x u := by
  have ev : ∀ t, V J M (tget ts t) (tm.getD t undef) := fun t => eval_rel (a := ⟨tm, []⟩) hs hv (.tmp t)
  cases rv with
  | tmp t =>
    simp only [resA, Option.some.injEq] at hx
    subst hx
    exact ⟨_, by simp [resRun], ev t⟩
  | cell t ty =>
    simp only [resA] at hx
    split at hx
    · rename_i fs hd
      rcases bsq_inv hx with ⟨_, hx⟩ | ⟨h0, hx⟩
      · cases hx
      · simp only [Option.map_eq_some_iff] at hx
        obtain ⟨l, hl, rfl⟩ := hx
        have hne : P.cellsOf ty ≠ 0 := fun e => by rw [e] at h0; cases h0
        obtain ⟨h0, hlen, H⟩ := cellsN_sound hr (ev t) _ _ _ hl
        obtain ⟨ad, hu⟩ := h0.resolve_left hne
        obtain ⟨vs, hvl, hvc, hvV⟩ := H ad hu
        refine ⟨.agg vs.toArray, by simp [resRun, hu, loadVar_agg hd rfl hvl (fun i v hi => by simpa using hvc i v hi), asAddr], ?_⟩
        simp only [V]
        exact ⟨_, rfl, by simp [hvl, hlen], by simpa using hvV⟩
    · cases hx
    · rename_i d hn1 hn2 hd
      obtain ⟨ad, u, hu, hc, hV⟩ := cellAt_sound hr (ev t) hx
      rw [add_zero] at hc
      exact ⟨u, by simp [resRun, hu, asAddr, loadVar_one hd (by cases d <;> simp_all [isAggD]) hc], hV⟩
    · cases hx
theorem results_run (fn : Func) (tm : Array Value) : results fn tm = (do let vs ← fn.results.mapM (resRun tm); pure (if h : vs.size = 1 then vs[0] else .tuple vs)) := by
  unfold results
  congr 1
theorem resOf_sound {J M h w} (hr : HR J M h w) {ts : List AV} {tm : Array Value} (hs : tm.size = ts.length) (hv : Vs J M ts (fun i => tm[i]?)) {fn : Func} {x : AV} (hx : resOf P fn ts h = some x) :
    ∃ u, (results fn tm).run P w = .ok u w ∧ V J M x u := by
  rw [results_run]
  unfold resOf at hx
  split at hx
  · rename_i he
    have he : fn.results = #[] := by rw [← Array.toList_inj]; exact he
    cases hx
    exact ⟨.tuple #[], by simp [he], by simp [V, VR, VRs]⟩
  · rename_i r he
    have he : fn.results = #[r] := by rw [← Array.toList_inj]; exact he
    obtain ⟨u, h1, h2⟩ := resA_sound hr hs hv hx
    exact ⟨u, by simp [he, h1], h2⟩
  · rename_i r s he
    have he : fn.results = #[r, s] := by rw [← Array.toList_inj]; exact he
    unfold two at hx
    split at hx
    case h_2 => cases hx
    rename_i a b ha hb
    cases hx
    obtain ⟨u, h1, h2⟩ := resA_sound hr hs hv ha
    obtain ⟨v, h3, h4⟩ := resA_sound hr hs hv hb
    refine ⟨.tuple #[u, v], by simp [he, h1, h3], ?_⟩
    simp only [V]
    exact ⟨_, rfl, rfl, by simp [Vs, h2, h4]⟩
  · rename_i r s t he
    have he : fn.results = #[r, s, t] := by rw [← Array.toList_inj]; exact he
    unfold three at hx
    split at hx
    case h_2 => cases hx
    rename_i a b c ha hb hc
    cases hx
    obtain ⟨u, h1, h2⟩ := resA_sound hr hs hv ha
    obtain ⟨v, h3, h4⟩ := resA_sound hr hs hv hb
    obtain ⟨z, h5, h6⟩ := resA_sound hr hs hv hc
    refine ⟨.tuple #[u, v, z], by simp [he, h1, h3, h5], ?_⟩
    simp only [V]
    exact ⟨_, rfl, rfl, by simp [Vs, h2, h4, h6]⟩
  · cases hx
theorem Vs_replicate {J M} (n : Nat) : Vs J M (List.replicate n undefA) (fun i => (Array.replicate n undef)[i]?) := by
  refine Vs_iff.2 fun i x hx => ?_
  rw [List.getElem?_replicate] at hx
  split at hx
  · cases hx
    exact ⟨undef, by simp [*], by simp [V, VR, VRs, undef]⟩
  · cases hx
/-- Marks come to nothing at the end. -/
theorem marks_leave {fn : Func} {tm : Array Value} {R : Ending → World → Prop} {u : FrameMode} (hu : u ≠ .run) {J M h w J' M' h'} : ∀ (l : List Nat) (w' : World), l.Nodup → (∀ D ∈ l, w.heap.size ≤ D ∧ w'.heap[D]? = some (.deferred (some []))) → Stp J M h w J' M' h' w' →
    (∀ w2, Stp J M h w J' M' h' w2 → LeavesIn (FW none) 0 P fn tm R [] u w2) → LeavesInM (FW none) 0 P fn tm R (l.map mkD) u w'
  | [], w', _, _, st, H => H w' st
  | D :: l, w', hn, hl, st, H => by
    obtain ⟨h1, h2⟩ := hl D (by simp)
    rw [List.nodup_cons] at hn
    refine ⟨hu, .inl ⟨D, _, rfl, run_takeDeferred h2, marks_leave hu l _ hn.2 (fun D' hD' => ?_) (st.far h1 _ h2 (nc_def _)) H⟩⟩
    refine ⟨(hl D' (by simp [hD'])).1, ?_⟩
    rw [World.putObj_heap_other (by rintro rfl; exact hn.1 hD')]
    exact (hl D' (by simp [hD'])).2
/-- What the machine makes of a function is what a call of it does. -/
theorem fnA_sound (hm : P.follows .mixedOrders = true) (good : Good P Γ) {f : FuncId} {fn : Func} (hf : P.funcs[f]? = some fn) (hb : fn.body.isSome = true) {args : List AV} {h : Hp} {r : ARes} {h' : Hp}
    (hk : fnA P Γ ann trims k fn args h = some (r, h')) : ACalls P f args h r h' := by
  intro J M w cargs hr hsz hv
  unfold fnA at hk
  rcases bsq_inv hk with ⟨_, hk⟩ | ⟨_, hk⟩
  case inr => cases hk
  obtain ⟨e, σ', hfin, hwp⟩ := acode_sound hm good _ _ _ _ _ hk
  obtain ⟨c, hc⟩ := Option.isSome_iff_exists.1 hb
  have hbo : bodyOf fn = c := by simp [bodyOf, hc]
  rw [hbo] at hwp
  refine (callsIn_wide (n := 0)).1 (callsIn_of_wp_marks (F := FW none) hf hc trivial (wpIn_mono (hwp none 0 ⟨J, M, h, w, [], true⟩ _ w (.inl ⟨rfl, rfl⟩) ?_ ?_) fun x a' w' hx => ?_))
  · intro o q e k
    obtain ⟨ob, hob, _⟩ := hr.key _ _ _ k
    exact (List.getElem?_eq_some_iff.1 hob).1
  · refine ⟨J, M, Stp.refl hr, by simp [hsz], ?_, DMk.none⟩
    rw [hsz]
    exact Vs_app hsz hv (Vs_replicate _)
  · have fin : ∀ (ts : List AV), finR (resOf P fn σ'.tmps σ'.heap) σ'.heap = some (r, h') → Sim ⟨J, M, h, w, [], true⟩ σ' a' w' →
        LeavesInM (FW none) 0 P fn a'.tmps (fun e w' => ∃ J' M', Stp J M h w J' M' h' w' ∧ RelE J' M' r e) a'.defers .returning w' := by
      intro _ hfin hS
      obtain ⟨J', M', st, hs', hv', ds, hd, hnd, hds, _⟩ := hS
      rw [hd, List.append_nil]
      unfold finR at hfin
      split at hfin
      · rename_i v hres
        cases hfin
        refine marks_leave (by simp) ds w' hnd hds st fun w2 st2 => ?_
        obtain ⟨u, h1, h2⟩ := resOf_sound st2.hr hs' hv' hres
        exact ⟨u, h1, J', M', st2, u, rfl, h2⟩
      · cases hfin
    cases e with
    | normal => obtain ⟨rfl, hS⟩ := hx; exact fin [] hfin hS
    | ret => obtain ⟨rfl, hS⟩ := hx; exact fin [] hfin hS
    | exit i => cases hfin
    | pan v =>
      obtain ⟨J', M', u, rfl, st, hV, ⟨ds, hd, hnd, hds, _⟩, _⟩ := hx
      cases hfin
      show LeavesInM (FW none) 0 P fn a'.tmps _ a'.defers _ w'
      rw [hd, List.append_nil]
      exact marks_leave (by simp) ds w' hnd hds st fun w2 st2 => ⟨J', M', st2, u, rfl, hV⟩
theorem noJ {M : Mm} {w : World} (him : Held M w) : HR (fun _ _ => none) M [] w :=
  ⟨fun o ob ho => (by simp at ho), fun o r e k => (by cases k), fun o1 o2 ob1 ob2 e1 e2 h1 => (by simp at h1), him, fun a v o ob e k ho => (by simp at ho)⟩
theorem not_owned {b : Nat} : ¬ owned (fun _ _ => none) [] b := by
  rintro ⟨o, ob, e, ho, _⟩
  simp at ho
/-- A call with values held still. -/
theorem pcalls_of {f : FuncId} {rs : List RV} {r : Res} {o : Option (ARes × Hp)} (H : ∀ r h', o = some (r, h') → ACalls P f (rs.map .rv) [] r h') (hk : pureR o = some r) : PCalls P f rs r := by
  have fin : ∀ (v : AV) (h' : Hp) (x : RV) (ra : ARes) (rr : Res), o = some (ra, h') → toRV h' depthA v = some x →
      (∀ J M M' e, RelE J M ra e → (∀ u, V J M v u → VR M' x u) → RelP M' rr e) → PCalls P f rs rr := by
    intro v h' x ra rr ho hx hrel M w cargs him hsz hv
    refine (H ra h' ho (fun _ _ => none) M w cargs (noJ him) (by simpa using hsz) (Vs_iff.2 fun i y hy => ?_)).mono fun e w' ⟨J', M', st, hR⟩ => ?_
    · rw [List.getElem?_map] at hy
      simp only [Option.map_eq_some_iff] at hy
      obtain ⟨y', hy', rfl⟩ := hy
      obtain ⟨u, hu, hU⟩ := VRs_iff.1 hv _ _ hy'
      exact ⟨u, hu, by simpa only [V] using hU⟩
    · refine ⟨heldM J' M' h' w', st.mle.trans heldM_le, heldM_held st.hr, ?_, ⟨st.fr.os, st.fr.tape, st.fr.output, st.fr.size, fun b hb _ => st.fr.block b hb not_owned⟩, ?_⟩
      · intro a z hz
        unfold heldM at hz
        split at hz
        · simp only [Option.some.injEq] at hz
          subst hz
          rcases st.mnew _ _ ‹_› with k | k | k
          · exact .inl k
          · exact absurd k not_owned
          · exact .inr k
        · split at hz
          · rcases st.onew _ ‹_› with k | k
            · exact absurd k not_owned
            · exact .inr k
          · cases hz
      · exact hrel J' M' _ e hR fun u hu => toRV_sound st.hr _ _ _ _ hx hu
  unfold pureR at hk
  split at hk
  · rename_i v h'
    simp only [Option.map_eq_some_iff] at hk
    obtain ⟨x, hx, rfl⟩ := hk
    refine fin v h' x _ _ rfl hx fun J M M' e hR hu => ?_
    obtain ⟨u, rfl, hV⟩ := hR
    exact ⟨u, rfl, hu u hV⟩
  · rename_i v h'
    simp only [Option.map_eq_some_iff] at hk
    obtain ⟨x, hx, rfl⟩ := hk
    refine fin v h' x _ _ rfl hx fun J M M' e hR hu => ?_
    obtain ⟨u, rfl, hV⟩ := hR
    exact ⟨u, rfl, hu u hV⟩
  · cases hk
/-- A function that writes nothing that was there, known by what it makes of values held still. -/
theorem goodP (hm : P.follows .mixedOrders = true) (good : Good P Γ) {f : FuncId} {fn : Func} (hf : P.funcs[f]? = some fn) (hname : (fn.name == "runtime.NumGoroutine") = false) (hb : fn.body.isSome = true) {F : List RV → Option Res}
    (H : ∀ rs r, F rs = some r → ∃ k, pureR (fnA P Γ ann trims k fn (rs.map .rv) []) = some r) : GoodC P f (.pure F) := by
  obtain ⟨c, hc⟩ := Option.isSome_iff_exists.1 hb
  refine ⟨Go.Proofs.enters_of hf hname hc, fun rs r hr => ?_⟩
  obtain ⟨k, hk⟩ := H rs r hr
  exact pcalls_of (fun r h' ho => fnA_sound hm good hf hb ho) hk
theorem goodG (hm : P.follows .mixedOrders = true) (good : Good P Γ) {f : FuncId} {fn : Func} (hf : P.funcs[f]? = some fn) (hname : (fn.name == "runtime.NumGoroutine") = false) (hb : fn.body.isSome = true) {G : List AV → Hp → Option (ARes × Hp)}
    (H : ∀ args h x, G args h = some x → ∃ k, fnA P Γ ann trims k fn args h = some x) : GoodC P f (.gen G) := by
  obtain ⟨c, hc⟩ := Option.isSome_iff_exists.1 hb
  refine ⟨Go.Proofs.enters_of hf hname hc, fun args h r h' hr => ?_⟩
  obtain ⟨k, hk⟩ := H _ _ _ hr
  exact fnA_sound hm good hf hb hk
end
end Go.Proofs.Ytknphnmhjmejaaa
/-  Functions that first defer a call, and deferred functions that recover, on the abstract machine. No conditions. -/
namespace Go.Proofs.Ytknphnmhjmejaaa
set_option linter.unusedVariables false
noncomputable section
/-- What a deferred call makes of the heap: ahead of a return, or of a panic that it ends. -/
abbrev Dfd := Option AV → List AV → Hp → Option Hp
def GoodD (P : Program) (f : FuncId) (D : Dfd) : Prop :=
  Ent P f ∧ ∀ pv args h h', D pv args h = some h' → ∀ J M w (cargs : Array Value), HR J M h w → cargs.size = args.length → Vs J M args (fun i => cargs[i]?) →
    match pv with
    | none => CallsD P f cargs .returning w fun e u' w' => (∃ x, e = .returned x) ∧ u' = .returning ∧ ∃ J' M', Stp J M h w J' M' h' w'
    | some v => ∀ u, V J M v u → CallsD P f cargs (.panicking [{ v := u, recovered := false }]) w fun e u' w' => (∃ x, e = .returned x) ∧ settle u' = .returning ∧ ∃ J' M', Stp J M h w J' M' h' w'
section
variable {R : Type} (P : Program) (Γ : FuncId → Option Callee) (ann : Ann) (trims : List Nat) (k : Nat)
def fdk (D : Dfd) (pv : Option AV) (dargs : List AV) (h : Hp) (K : Hp → Option R) : Option R :=
  match D pv dargs h with
  | some h => K h
  | none => none
def finD (fn : Func) (D : Dfd) (dargs : List AV) (e : AE) (σ : St) : Option (ARes × Hp) :=
  match e with
  | .normal | .ret => fdk D none dargs σ.heap fun h => finR (resOf P fn σ.tmps h) h
  | .pan v => fdk D (some v) dargs σ.heap fun h => finR (resOf P fn σ.tmps h) h
  | .exit _ => none
theorem nrfl {α : Sort _} {a b : α} (h : a = b) : a = b := h
def dfrA (Δ : FuncId → Option Dfd) (o : Option Oper) (σ : St) (K : Dfd → List AV → Option R) : Option R :=
  match o with
  | none => none
  | some o => match o.op, o.guard, o.dst with
    | .defer c, none, none => match c.callee with
      | .value fo => match aeval σ.tmps fo with
        | .func f fst cap => match Δ f with
          | some D => K D (fst ++ c.args.toList.map (aeval σ.tmps) ++ cap)
          | none => none
        | _ => none
      | _ => none
    | _, _, _ => none
def onlyN (K : St → Option R) (e : AE) (σ : St) : Option R :=
  match e with
  | .normal => K σ
  | _ => none
def fnD (Δ : FuncId → Option Dfd) (fn : Func) (args : List AV) (h : Hp) : Option (ARes × Hp) :=
  bsq (Nat.ble args.length fn.ntmps && noR (bodyOf fn)) (match bodyOf fn with
    | .seq a (.seq (.region _ ops false) b) =>
      acode P Γ ann trims k a 2 ⟨args ++ List.replicate (fn.ntmps - args.length) undefA, h⟩ (onlyN fun σ => aops P Γ ops false (List.range (ops.size - 1)) σ (onlyN fun σ =>
        dfrA Δ ops[ops.size - 1]? σ fun D dargs => acode P Γ ann trims k b 7 σ (finD P fn D dargs)))
    | _ => none) none
def finE (e : AE) (σ : St) : Option Hp :=
  match e with
  | .normal | .ret => some σ.heap
  | _ => none
def isRec (o : Oper) : Bool :=
  match o.op, o.guard with
  | .call c, none => match c.callee, c.args.toList with
    | .builtin .recover, [] => true
    | _, _ => false
  | _, _ => false
def recV (pv : Option AV) : AV :=
  match pv with
  | none => .rv .nili
  | some v => v
def fnR (fn : Func) (pv : Option AV) (args : List AV) (h : Hp) : Option Hp :=
  bsq (Nat.ble args.length fn.ntmps && fn.results.isEmpty && noR (bodyOf fn)) (match bodyOf fn with
    | .seq (.region _ ops false) b => match ops.toList with
      | [] => none
      | o :: rest => bsq (isRec o) (aopsL P Γ ops.toList false rest ⟨putA o.dst (recV pv) (args ++ List.replicate (fn.ntmps - args.length) undefA), h⟩ (onlyN fun σ => acode P Γ ann trims k b 3 σ finE)) none
    | _ => none) none
end
section
variable {R : Type} {P : Program} {Γ : FuncId → Option Callee} {ann : Ann} {trims : List Nat} {k : Nat}
theorem wpOps_app {ops : Array Oper} {Q : Exit → Act → World → Prop} : ∀ (l1 l2 : List Nat) (a : Act) (w : World),
    wpOps P ops (fun e a w => match e with | .normal => wpOps P ops Q l2 a w | e => Q e a w) l1 a w → wpOps P ops Q (l1 ++ l2) a w
  | [], l2, a, w, h => h
  | i :: l1, l2, a, w, h => by
    rw [List.cons_append, wpOps_cons]
    rw [wpOps_cons] at h
    unfold wpOp at h ⊢
    split
    · rename_i ho
      rw [ho] at h
      exact wpOps_app l1 l2 _ _ h
    · rename_i o ho
      rw [ho] at h
      simp only at h
      split
      · rename_i hw
        rw [if_pos hw] at h
        rcases h with h | ⟨h1, a0, w0, h2⟩
        · refine .inl ?_
          have h := Oper.wp_mono (fun a w => wpOps_app l1 l2 a w) h
          unfold Oper.wp at h ⊢
          generalize (execOp a.eval o).run P w = r at h ⊢
          cases r with
          | ok n w' =>
            cases n with
            | enter f args =>
              simp only [Oper.upon] at h ⊢
              exact h.mono fun e w'' he => by
                cases e with
                | returned v => exact he
                | panicked chain => exact he
                | outgrown => obtain ⟨a0, w0, h2⟩ := he; exact ⟨a0, w0, h2⟩
            | _ => exact h
          | halt x w' => cases x <;> exact h
        · exact .inr ⟨h1, a0, w0, h2⟩
      · rename_i hw
        rw [if_neg hw] at h
        exact wpOps_app l1 l2 _ _ h
theorem wpOps_imp {ops : Array Oper} {Q Q' : Exit → Act → World → Prop} (hq : ∀ e a w, Q e a w → Q' e a w) : ∀ {l : List Nat} {a : Act} {w : World}, wpOps P ops Q l a w → wpOps P ops Q' l a w := by
  intro l
  induction l with
  | nil => intro a w h; exact hq _ _ _ h
  | cons i l ih =>
    intro a w h
    rw [wpOps_cons] at h ⊢
    unfold wpOp at h ⊢
    split
    · rename_i ho
      rw [ho] at h
      exact ih h
    · rename_i o ho
      rw [ho] at h
      simp only at h
      split
      · rename_i hw
        rw [if_pos hw] at h
        rcases h with h | ⟨h1, a0, w0, h2⟩
        · refine .inl ?_
          have h := Oper.wp_mono (fun a w => ih (a := a) (w := w)) h
          unfold Oper.wp at h ⊢
          generalize (execOp a.eval o).run P w = r at h ⊢
          cases r with
          | ok n w' =>
            cases n with
            | enter f args =>
              simp only [Oper.upon] at h ⊢
              exact h.mono fun e w'' he => by
                cases e with
                | returned v => exact he
                | panicked chain => exact hq _ _ _ he
                | outgrown => obtain ⟨a0, w0, h2⟩ := he; exact ⟨a0, w0, hq _ _ _ h2⟩
            | _ => exact h
          | halt x w' =>
            cases x with
            | panic v => exact hq _ _ _ h
            | _ => exact h
        · exact .inr ⟨h1, a0, w0, hq _ _ _ h2⟩
      · rename_i hw
        rw [if_neg hw] at h
        exact ih h
theorem onlyN_inv {K : St → Option R} {e : AE} {σ : St} {r : R} (h : onlyN K e σ = some r) : e = .normal ∧ K σ = some r := by
  cases e <;> simp [onlyN] at h
  exact ⟨rfl, h⟩
theorem fnD_sound (hm : P.follows .mixedOrders = true) (good : Good P Γ) {Δ : FuncId → Option Dfd} (gd : ∀ f D, Δ f = some D → GoodD P f D) {f : FuncId} {fn : Func} (hf : P.funcs[f]? = some fn) (hb : fn.body.isSome = true) {args : List AV} {h : Hp} {r : ARes} {h' : Hp}
    (hk : fnD P Γ ann trims k Δ fn args h = some (r, h')) : ACalls P f args h r h' := by
  intro J M w cargs hr hsz hv
  unfold fnD at hk
  rcases bsq_inv hk with ⟨hno, hk⟩ | ⟨_, hk⟩
  case inr => cases hk
  replace hno := (Bool.and_eq_true_iff.1 hno).2
  obtain ⟨c, hc⟩ := Option.isSome_iff_exists.1 hb
  have hbo : bodyOf fn = c := by simp [bodyOf, hc]
  rw [hbo] at hk
  split at hk
  case h_2 => cases hk
  rename_i ca id ops cb
  rw [hbo] at hno
  have hnoa : noR ca = true := noR_l hno
  have hnob : noR cb = true := noR_r (noR_r hno)
  obtain ⟨e1, σ1, hK1, hw1⟩ := acode_sound hm good _ _ _ _ _ hk
  replace hw1 := hw1.plain hnoa
  obtain ⟨he1, hN1⟩ := onlyN_inv hK1
  subst he1
  obtain ⟨e2, σ2, hK2', hw2⟩ := aops_sound good _ _ _ _ hN1
  obtain ⟨he2, hK2⟩ := onlyN_inv hK2'
  subst he2
  clear hK1 hK2' hN1
  unfold dfrA at hK2
  split at hK2
  · cases hK2
  rename_i o ho
  split at hK2
  case h_2 => cases hK2
  rename_i dc hop hgu hds
  split at hK2
  case h_2 => cases hK2
  rename_i fo hcal
  split at hK2
  case h_2 => cases hK2
  rename_i g fst cap hfo
  split at hK2
  case h_2 => cases hK2
  rename_i D hD
  obtain ⟨hent, hgd⟩ := gd g D hD
  obtain ⟨e3, σ3, hfin, hw3⟩ := acode_sound hm good _ _ _ _ _ hK2
  replace hw3 := hw3.plain hnob
  have hpos : 0 < ops.size := by
    have := (Array.getElem?_eq_some_iff.1 ho).1
    omega
  have hok : ∀ (J : Jm) (M : Mm) (h : Hp) (w : World) (D : List Deferred), HR J M h w → (⟨J, M, h, w, D, false⟩ : Bs).ok := by
    intro J M h w D hr o q e k
    obtain ⟨ob, hob, _⟩ := hr.key _ _ _ k
    exact (List.getElem?_eq_some_iff.1 hob).1
  refine calls_of_wp_defers hf hc (wp_seq (wp_mono (hw1 ⟨J, M, h, w, [], false⟩ _ w (hok _ _ _ _ _ hr) ?_) fun x a1 w1 hx => ?_))
  · refine ⟨J, M, Stp.refl hr, by simp [hsz], ?_, DMk.none⟩
    rw [hsz]
    exact Vs_app hsz hv (Vs_replicate _)
  · obtain ⟨rfl, hS1⟩ := hx
    refine wp_seq (wp_region ?_)
    have hrng : List.range ops.size = List.range (ops.size - 1) ++ [ops.size - 1] := by
      conv => lhs; rw [show ops.size = (ops.size - 1) + 1 by omega]
      rw [List.range_succ]
    rw [hrng]
    refine wpOps_app _ _ _ _ ?_
    have key : ∀ a2 w2, Sim ⟨J, M, h, w, [], false⟩ σ2 a2 w2 → wpOps P ops (Exit.then (cb.wp P (bodyPostD P fn fun e w' => ∃ J' M', Stp J M h w J' M' h' w' ∧ RelE J' M' r e)) (bodyPostD P fn fun e w' => ∃ J' M', Stp J M h w J' M' h' w' ∧ RelE J' M' r e)) [ops.size - 1] a2 w2 := by
      intro a2 w2 hS2
      obtain ⟨J2, M2, st2, hs2, hv2, hd2⟩ := hS2
      have hV := eval_rel hs2 hv2 fo
      rw [hfo] at hV
      simp only [V] at hV
      obtain ⟨us, vs, hfv, ⟨hus, huv⟩, hcs, hcv⟩ := hV
      have hargs : Vs J2 M2 (fst ++ dc.args.toList.map (aeval σ2.tmps) ++ cap) (fun i => (us ++ dc.args.map a2.eval ++ vs)[i]?) := by
        refine Vs_app (by simp [hus]) (Vs_app hus huv ?_) hcv
        have := Vs_map hs2 hv2 dc.args.toList
        refine Vs_mono (JLe.refl J2) (MLe.refl M2) _ _ _ (fun i v hv => ?_) this
        simpa using hv
      simp only [wpOps, ho]
      rw [if_pos (by simp [Region.wanted, hgu])]
      refine .inl ?_
      unfold Oper.wp
      have hrun : (execOp a2.eval o).run P w2 = .ok (.defer { target := .fn (.func g) vs, args := us ++ dc.args.map a2.eval }) w2 := by
        simp only [execOp, hop, resolve, hcal, hfv, Deferred.ofValue, Sem.run_bind, Sem.run_pure, Result.andThen_ok]
      rw [hrun, Oper.upon_defer]
      have hput : ∀ a : Act, a.put o.dst undef = a := by intro a; rw [hds]; rfl
      rw [hput]
      refine wp_mono (hw3 ⟨J2, M2, σ2.heap, w2, [{ target := .fn (.func g) vs, args := us ++ dc.args.map a2.eval }], false⟩ _ w2 (hok _ _ _ _ _ st2.hr) ⟨J2, M2, Stp.refl st2.hr, hs2, hv2, by rw [hd2.eq rfl]; exact DMk.none⟩) fun x a3 w3 hx => ?_
      have leave : ∀ (pv : Option AV) (u : FrameMode) (J3 : Jm) (M3 : Mm), Stp J2 M2 σ2.heap w2 J3 M3 σ3.heap w3 → a3.tmps.size = σ3.tmps.length → Vs J3 M3 σ3.tmps (fun i => a3.tmps[i]?) → a3.defers = [{ target := .fn (.func g) vs, args := us ++ dc.args.map a2.eval }] →
          fdk D pv (fst ++ dc.args.toList.map (aeval σ2.tmps) ++ cap) σ3.heap (fun h => finR (resOf P fn σ3.tmps h) h) = some (r, h') →
          (match pv with | none => u = .returning | some v => ∃ x, V J3 M3 v x ∧ u = .panicking [{ v := x, recovered := false }]) → Leaves P fn a3.tmps (fun e w' => ∃ J' M', Stp J M h w J' M' h' w' ∧ RelE J' M' r e) a3.defers u w3 := by
        intro pv u J3 M3 st3 hs3 hv3 hd3 hres hu
        rw [hd3]
        unfold fdk at hres
        split at hres
        case h_2 => cases hres
        rename_i h4 hD4
        have hrel : ∀ J4 M4 w4, Stp J3 M3 σ3.heap w3 J4 M4 h4 w4 → Leaves P fn a3.tmps (fun e w' => ∃ J' M', Stp J M h w J' M' h' w' ∧ RelE J' M' r e) [] .returning w4 := by
          intro J4 M4 w4 st4
          simp only [finR] at hres
          split at hres
          case h_2 => cases hres
          rename_i v hv'
          cases hres
          obtain ⟨x, h1, h2⟩ := resOf_sound st4.hr hs3 (Vs_mono st4.jle st4.mle _ _ _ (fun _ _ k => k) hv3) hv'
          exact ⟨x, h1, J4, M4, ((st2.trans st3).trans st4), x, rfl, h2⟩
        have hca := Vs_mono st3.jle st3.mle _ _ _ (fun _ _ k => k) hargs
        have hsz2 : (us ++ dc.args.map a2.eval ++ vs).size = (fst ++ dc.args.toList.map (aeval σ2.tmps) ++ cap).length := by simp [hcs, hus]
        have hin : (invoke (.fn (.func g) vs) (us ++ dc.args.map a2.eval)).run P w3 = .ok (.enter g (us ++ dc.args.map a2.eval ++ vs)) w3 := by
          simp only [invoke]
          exact hent _ w3
        have hgd := hgd pv _ _ _ hD4 J3 M3 w3 _ st3.hr hsz2 hca
        cases pv with
        | none =>
          subst hu
          refine leaves_cons (by simp) hin (CallsD.mono hgd fun e u' w' ⟨⟨x, he⟩, hu', J4, M4, st4⟩ => ?_)
          subst he; subst hu'
          exact hrel J4 M4 w' st4
        | some v =>
          obtain ⟨x, hx, rfl⟩ := hu
          refine leaves_cons (by simp) hin (CallsD.mono (hgd x hx) fun e u' w' ⟨⟨y, he⟩, hu', J4, M4, st4⟩ => ?_)
          subst he
          simp only
          rw [hu']
          exact hrel J4 M4 w' st4
      cases e3 with
      | normal =>
        obtain ⟨rfl, J3, M3, st3, hs3, hv3, hd3⟩ := hx
        exact leave none .returning J3 M3 st3 hs3 hv3 (hd3.eq rfl) hfin rfl
      | ret =>
        obtain ⟨rfl, J3, M3, st3, hs3, hv3, hd3⟩ := hx
        exact leave none .returning J3 M3 st3 hs3 hv3 (hd3.eq rfl) hfin rfl
      | exit i => cases hfin
      | pan v =>
        obtain ⟨J3, M3, u, rfl, st3, hV3, hd3, hs3, hv3⟩ := hx
        exact leave (some v) _ J3 M3 st3 hs3 hv3 (hd3.eq rfl) hfin ⟨u, hV3, rfl⟩
    have base := hw2 ⟨J, M, h, w, [], false⟩ a1 w1 hS1
    refine wpOps_imp ?_ base
    intro x a2 w2 hx
    obtain ⟨rfl, hS2⟩ := hx
    exact key a2 w2 hS2
theorem isRec_run {o : Oper} (ho : isRec o = true) (ρ : Operand → Value) (w : World) : (execOp ρ o).run P w = .ok .recover w ∧ o.guard = none := by
  unfold isRec at ho
  split at ho
  case h_2 => cases ho
  rename_i c hop hg
  split at ho
  case h_2 => cases ho
  rename_i hcal hargs
  refine ⟨?_, hg⟩
  simp only [execOp, hop, resolve, hcal, Sem.run_bind, Sem.run_pure, Result.andThen_ok, invoke]
  have : c.args = #[] := by rw [← Array.toList_inj]; exact hargs
  rw [this]
  rfl
theorem wpS_rec {id : Nat} {ops : Array Oper} {o : Oper} {rest : List Oper} {Q : Exit → Act → List Frame → World → Prop} {a : Act} {cs cs' : List Frame} {w : World} {v : Value} (hops : ops.toList = o :: rest) (hrec : isRec o = true)
    (hcs : recoverD cs = some (v, cs') ∨ recoverD cs = none ∧ v = .nilIface ∧ cs' = cs)
    (h : wpOps P ops (fun e a' w' => Q e a' cs' w') (List.range' 1 rest.length) (a.put o.dst v) w) : (Code.region id ops false).wpS P Q a cs w := by
  intro b k hb hro
  obtain ⟨e, a', w', hq, harr⟩ := wp_ops _ _ _ h b k cs'
  have ho : ops[0]? = some o := by rw [← Array.getElem?_toList, hops]; rfl
  have hsz : ops.size = rest.length + 1 := by rw [← Array.length_toList, hops]; rfl
  obtain ⟨hr, hg0⟩ := isRec_run (P := P) hrec a.eval w
  refine ⟨e, a', cs', w', hq, .of_steps (.head step_region (.one ?_)) harr⟩
  have hrng : List.range ops.size = 0 :: List.range' 1 rest.length := by
    rw [hsz, List.range_eq_range', List.range'_succ]
  rw [hrng]
  have hw : Region.wanted o (yielded ops a.tmps) = true := by simp [Region.wanted, hg0]
  have hg := stepG_op (P := P) (b := b) (k := k) (cs := cs) (w := w) (rest := List.range' 1 rest.length) ho hw
  have hfin : ∀ v, (b.at a (.inRegion ops (0 :: List.range' 1 rest.length) :: k)).finish v = b.at (a.put o.dst v) (.inRegion ops (List.range' 1 rest.length) :: k) := by
    intro v; rw [Frame.finish_at, ho]; rfl
  have hk : (b.at a (.inRegion ops (0 :: List.range' 1 rest.length) :: k)).kind = .deferred := hb
  have htr := tryRecover_deferred hk cs
  refine step_lone_go ?_
  rw [hg, ← hfin]
  simp only [Frame.at] at htr ⊢
  rcases hcs with hcs | ⟨hcs, rfl, rfl⟩
  · simp [stepG.apply, hr, htr, hcs]
  · simp [stepG.apply, hr, htr, hcs]
theorem fnR_sound (hm : P.follows .mixedOrders = true) (good : Good P Γ) {f : FuncId} {fn : Func} (hf : P.funcs[f]? = some fn) (hname : (fn.name == "runtime.NumGoroutine") = false) (hb : fn.body.isSome = true) {D : Dfd}
    (H : ∀ pv args h h', D pv args h = some h' → ∃ k, fnR P Γ ann trims k fn pv args h = some h') : GoodD P f D := by
  obtain ⟨c, hc⟩ := Option.isSome_iff_exists.1 hb
  refine ⟨Go.Proofs.enters_of hf hname hc, fun pv args h h' hD J M w cargs hr hsz hv => ?_⟩
  obtain ⟨k, hk⟩ := H pv args h h' hD
  unfold fnR at hk
  rcases bsq_inv hk with ⟨hne, hk⟩ | ⟨_, hk⟩
  case inr => cases hk
  have hno := (Bool.and_eq_true_iff.1 hne).2
  have hres : fn.results = #[] := by
    simp only [Bool.and_eq_true] at hne
    simpa using hne.1.2
  have hbo : bodyOf fn = c := by simp [bodyOf, hc]
  rw [hbo] at hk hno
  split at hk
  case h_2 => cases hk
  rename_i id ops cb
  split at hk
  · cases hk
  rename_i o rest hops
  rcases bsq_inv hk with ⟨hrec, hk⟩ | ⟨_, hk⟩
  case inr => cases hk
  rw [aopsL_eq P Γ ops false rest 1 (by rw [hops]; rfl)] at hk
  obtain ⟨e2, σ2, hK2, hw2⟩ := aops_sound good _ _ _ _ hk
  obtain ⟨he2, hN2⟩ := onlyN_inv hK2
  subst he2
  obtain ⟨e3, σ3, hfin, hw3⟩ := acode_sound hm good _ _ _ _ _ hN2
  replace hw3 := hw3.plain (noR_r (a := true) hno)
  have hok : (⟨J, M, h, w, [], false⟩ : Bs).ok := by
    intro o q e k
    obtain ⟨ob, hob, _⟩ := hr.key _ _ _ k
    exact (List.getElem?_eq_some_iff.1 hob).1
  have main : ∀ (v : Value) (u u' : FrameMode) (Rr : Ending → FrameMode → World → Prop), V J M (recV pv) v →
      (∀ c₀ cs, c₀.mode = u → recoverD (c₀ :: cs) = some (v, { c₀ with mode := u' } :: cs) ∨ recoverD (c₀ :: cs) = none ∧ v = .nilIface ∧ { c₀ with mode := u' } :: cs = c₀ :: cs) →
      (∀ x w' J' M', Stp J M h w J' M' h' w' → Rr (.returned x) u' w') → CallsD P f cargs u w Rr := by
    intro v u u' Rr hV hrv hR
    refine callsD_of_wpS hf hc fun c₀ cs hu => wpS_seq (wpS_rec hops hrec (hrv c₀ cs hu) ?_)
    have hS0 : Sim ⟨J, M, h, w, [], false⟩ ⟨putA o.dst (recV pv) (args ++ List.replicate (fn.ntmps - args.length) undefA), h⟩ (({ tmps := cargs ++ Array.replicate (fn.ntmps - cargs.size) undef, defers := [] } : Act).put o.dst v) w := by
      refine Sim.put (J := J) (M := M) (σ := ⟨args ++ List.replicate (fn.ntmps - args.length) undefA, h⟩) (by simp [hsz]) ?_ DMk.none (Stp.refl hr) (Stp.refl hr) hV
      rw [hsz]
      exact Vs_app hsz hv (Vs_replicate _)
    refine wpOps_imp (fun x a2 w2 hx => ?_) (hw2 _ _ _ hS0)
    obtain ⟨rfl, hS2⟩ := hx
    refine wpS_of_wp (wp_mono (hw3 _ a2 w2 hok hS2) fun x a3 w3 hx => ?_)
    have fin : ∀ tm, (results fn tm).run P w3 = .ok (.tuple #[]) w3 := by
      intro tm
      rw [results_run]
      simp [hres]
    cases e3 with
    | normal =>
      obtain ⟨rfl, J3, M3, st3, hs3, hv3, hd3⟩ := hx
      cases hfin
      exact ⟨hd3.eq rfl, u', rfl, _, fin _, hR _ _ _ _ st3⟩
    | ret =>
      obtain ⟨rfl, J3, M3, st3, hs3, hv3, hd3⟩ := hx
      cases hfin
      exact ⟨hd3.eq rfl, u', rfl, _, fin _, hR _ _ _ _ st3⟩
    | exit i => cases hfin
    | pan v => cases hfin
  cases pv with
  | none =>
    refine main .nilIface .returning .returning _ (by simp [recV, V, VR]) (fun c₀ cs hu => .inr ⟨?_, rfl, ?_⟩) fun x w' J' M' st => ⟨⟨x, rfl⟩, rfl, J', M', st⟩
    · simp [recoverD, hu]
    · rw [← hu]
  | some v =>
    intro u hV
    refine main u _ (.panicking [{ v := u, recovered := true }]) _ hV (fun c₀ cs hu => .inl ?_) fun x w' J' M' st => ⟨⟨x, rfl⟩, rfl, J', M', st⟩
    simp [recoverD, hu]
theorem goodPD (hm : P.follows .mixedOrders = true) (good : Good P Γ) {Δ : FuncId → Option Dfd} (gd : ∀ f D, Δ f = some D → GoodD P f D) {f : FuncId} {fn : Func} (hf : P.funcs[f]? = some fn) (hname : (fn.name == "runtime.NumGoroutine") = false) (hb : fn.body.isSome = true) {F : List RV → Option Res}
    (H : ∀ rs r, F rs = some r → ∃ k, pureR (fnD P Γ ann trims k Δ fn (rs.map .rv) []) = some r) : GoodC P f (.pure F) := by
  obtain ⟨c, hc⟩ := Option.isSome_iff_exists.1 hb
  refine ⟨Go.Proofs.enters_of hf hname hc, fun rs r hr => ?_⟩
  obtain ⟨k, hk⟩ := H rs r hr
  exact pcalls_of (fun r h' ho => fnD_sound hm good gd hf hb ho) hk
theorem goodGD (hm : P.follows .mixedOrders = true) (good : Good P Γ) {Δ : FuncId → Option Dfd} (gd : ∀ f D, Δ f = some D → GoodD P f D) {f : FuncId} {fn : Func} (hf : P.funcs[f]? = some fn) (hname : (fn.name == "runtime.NumGoroutine") = false) (hb : fn.body.isSome = true) {G : List AV → Hp → Option (ARes × Hp)}
    (H : ∀ args h x, G args h = some x → ∃ k, fnD P Γ ann trims k Δ fn args h = some x) : GoodC P f (.gen G) := by
  obtain ⟨c, hc⟩ := Option.isSome_iff_exists.1 hb
  refine ⟨Go.Proofs.enters_of hf hname hc, fun args h r h' hr => ?_⟩
  obtain ⟨k, hk⟩ := H _ _ _ hr
  exact fnD_sound hm good gd hf hb hk
end
end
end Go.Proofs.Ytknphnmhjmejaaa
/-  The given program's one fact that all functions' contracts ask. No conditions. -/
namespace Go.Proofs.Ytknphnmhjmejaaa
theorem mixed : Try.prog.follows .mixedOrders = true := by kernel_rfl
theorem big_val : big = 4611686018427387904 := rfl
end Go.Proofs.Ytknphnmhjmejaaa
