/-  The abstract machine: ranges over what 'slices.Backward' hands back. No conditions. -/
import Derived.Test.YtknphnmhjmejaaaAmSh
import Derived.RangeFuncRecord
namespace Go.Proofs.Ytknphnmhjmejaaa
set_option linter.unusedVariables false
def notCells (o : Obj) : Prop := ∀ c t s, o ≠ .cells c t s
theorem nc_loop (r : Loop) : notCells (.loop r) := fun _ _ _ h => by cases h
theorem nc_def (x) : notCells (.deferred x) := fun _ _ _ h => by cases h
theorem not_owned_nc {J M h w} (hr : HR J M h w) {b : Nat} {o : Obj} (hb : w.heap[b]? = some o) (hn : notCells o) : ¬ owned J h b := by
  rintro ⟨k, ob, e, ho, he, rfl⟩
  obtain ⟨e', c, t, he', _, hc, _⟩ := hr.ob k ob ho
  rw [he] at he'
  cases he'
  rw [hb] at hc
  exact hn _ _ _ (Option.some.inj hc)
theorem Stp.keeps {J M h w J' M' h' w'} (st : Stp J M h w J' M' h' w') (hr : HR J M h w) {b : Nat} {o : Obj} (hb : w.heap[b]? = some o) (hn : notCells o) : w'.heap[b]? = some o := by
  rw [st.fr.block b (lt_of_cells hb) (not_owned_nc hr hb hn)]
  exact hb
theorem put_cells {w : World} {l : Nat} {o o' : Obj} (ho : w.heap[l]? = some o) (hn : notCells o) (b : Nat) (c : Array Value) (t : TypeId) (s) (hb : w.heap[b]? = some (Obj.cells c t s)) : (w.putObj l o').heap[b]? = some (Obj.cells c t s) := by
  rw [World.putObj_heap_other]
  · exact hb
  · rintro rfl
    rw [ho] at hb
    exact hn _ _ _ (Option.some.inj hb)
/-- A block that holds no cells becomes another such. -/
theorem HR.far {J M h w} (hr : HR J M h w) {l : Nat} {o : Obj} (o' : Obj) (ho : w.heap[l]? = some o) (hn : notCells o) : HR J M h (w.putObj l o') := by
  refine ⟨?_, hr.key, hr.inj, fun a v k => ?_, hr.sep⟩
  · intro k ob hk
    obtain ⟨e, c, t, h1, h2, h3, h4, h5⟩ := hr.ob k ob hk
    exact ⟨e, c, t, h1, h2, put_cells ho hn _ _ _ _ h3, h4, h5⟩
  · have hv := hr.im a v k
    unfold World.cell? at hv ⊢
    split at hv
    · rename_i c t s hc
      rw [put_cells ho hn _ _ _ _ hc]
      exact hv
    · cases hv
theorem Stp.far {J M h w J' M' h' w'} (st : Stp J M h w J' M' h' w') {l : Nat} (hl : w.heap.size ≤ l) {o : Obj} (o' : Obj) (ho : w'.heap[l]? = some o) (hn : notCells o) : Stp J M h w J' M' h' (w'.putObj l o') := by
  refine ⟨st.jle, st.mle, st.hr.far o' ho hn, st.len, ⟨st.fr.os, st.fr.tape, st.fr.output, ?_, fun b hb hob => ?_⟩, st.mnew, st.onew⟩
  · rw [World.putObj_size]
    exact st.fr.size
  · rw [World.putObj_heap_other (by omega)]
    exact st.fr.block b hb hob
/-- A block that holds no cells is another one for a while. -/
theorem Stp.round {J M h w J1 M1 h1 w1 J3 M3 h3 w3} (st1 : Stp J M h w J1 M1 h1 w1) {l : Nat} {o1 o2 : Obj} (h0 : w.heap[l]? = some o1) (n1 : notCells o1) (n2 : notCells o2) (st3 : Stp J1 M1 h1 (w1.putObj l o2) J3 M3 h3 w3) (hl3 : w3.heap[l]? = some o2) :
    Stp J M h w J3 M3 h3 (w3.putObj l o1) := by
  have hs1 : (w1.putObj l o2).heap.size = w1.heap.size := World.putObj_size
  refine ⟨st1.jle.trans st3.jle, st1.mle.trans st3.mle, st3.hr.far o1 hl3 n2, Nat.le_trans st1.len st3.len, ⟨st3.fr.os.trans st1.fr.os, st3.fr.tape.trans st1.fr.tape, st3.fr.output.trans st1.fr.output, ?_, fun b hb hob => ?_⟩, fun a v k => ?_, fun b k => ?_⟩
  · rw [World.putObj_size]
    have := st3.fr.size
    rw [hs1] at this
    exact Nat.le_trans st1.fr.size this
  · by_cases hbl : b = l
    · subst hbl
      rw [World.putObj_heap_same (lt_of_cells hl3), h0]
    · rw [World.putObj_heap_other hbl, st3.fr.block b (by rw [hs1]; exact Nat.lt_of_lt_of_le hb st1.fr.size) (fun k => ?_), World.putObj_heap_other hbl, st1.fr.block b hb hob]
      rcases st1.onew b k with k | k
      · exact hob k
      · omega
  · rcases st3.mnew a v k with k | k | k
    · exact st1.mnew a v k
    · rcases st1.onew _ k with k | k
      · exact .inr (.inl k)
      · exact .inr (.inr k)
    · rw [hs1] at k
      exact .inr (.inr (Nat.le_trans st1.fr.size k))
  · rcases st3.onew b k with k | k
    · exact st1.onew b k
    · rw [hs1] at k
      exact .inr (Nat.le_trans st1.fr.size k)
theorem keepA_get (keep : List Nat) : ∀ (l : List AV) (n i : Nat) (x : AV), (keepA keep n l)[i]? = some x → x = .any ∨ l[i]? = some x
  | [], n, i, x, h => by simp [keepA] at h
  | v :: vs, n, i, x, h => by
    simp only [keepA] at h
    cases hc : keep.contains n with
    | true =>
      rw [hc] at h
      simp only [cond_true] at h
      cases i with
      | zero => exact .inr h
      | succ i => exact keepA_get keep vs (n + 1) i x (by simpa using h)
    | false =>
      rw [hc] at h
      simp only [cond_false] at h
      cases i with
      | zero => simp at h; exact .inl h.symm
      | succ i => exact keepA_get keep vs (n + 1) i x (by simpa using h)
theorem keepA_length (keep : List Nat) : ∀ (l : List AV) (n : Nat), (keepA keep n l).length = l.length
  | [], n => rfl
  | v :: vs, n => by
    simp only [keepA]
    cases keep.contains n <;> simp [keepA_length keep vs (n + 1)]
theorem Stp.laid {J M h w} (hr : HR J M h w) (o : Obj) : Stp J M h w J M h (w.alloc o) := by
  refine Stp.fresh (w' := w.alloc o) hr ⟨rfl, rfl, rfl, ?_, fun b hb _ => heap_old w o hb⟩ (MLe.refl M) (fun a v k => ?_) (fun _ _ k => .inl k)
  · show _ ≤ (w.heap.push o).size
    simp
  · have := hr.im a v k
    unfold World.cell? at this ⊢
    split at this
    · rename_i c t s hc
      rw [heap_old w o (lt_of_cells hc), hc]
      exact this
    · cases this
section
variable {P : Program}
theorem op_res {o : Oper} {ts : List AV} {h h' : Hp} {v : AV} (hk : aop P (fun _ => none) o ⟨ts, h⟩ (fun v h => some (some (v, h))) (fun _ _ => some none) = some (some (v, h'))) : OpRes P o ts h v h' := by
  rcases aop_sound (P := P) (Γ := fun _ => none) (fun f c hf => by cases hf) hk with ⟨v1, h1, e, H⟩ | ⟨v1, h1, e, H⟩
  · cases e; exact H
  · cases e
/-- The frame of what 'Backward' hands back: where it calls yield, the record; the rest as ever. -/
def SimY (B : Bs) (l : Nat) (rl : Loop) (ys : List Nat) (σ : St) (a : Act) (w : World) : Prop :=
  (∀ t ∈ ys, a.tmps[t]? = some (.func (.yield l) #[] #[])) ∧ a.defers = [] ∧ w.heap[l]? = some (.loop rl) ∧
    ∃ J M, Stp B.J B.M B.h B.w J M σ.heap w ∧ a.tmps.size = σ.tmps.length ∧ Vs J M σ.tmps (fun i => a.tmps[i]?)
theorem SimY.put {B : Bs} {l : Nat} {rl : Loop} {ys : List Nat} {ts : List AV} {h h' : Hp} {a : Act} {w w' : World} {d : Nat} {v : AV} {u : Value} {J M J' M'} (hy : d ∉ ys) (h0 : ∀ t ∈ ys, a.tmps[t]? = some (.func (.yield l) #[] #[])) (hd : a.defers = []) (hl : w.heap[l]? = some (.loop rl))
    (st0 : Stp B.J B.M B.h B.w J M h w) (hs : a.tmps.size = ts.length) (hv : Vs J M ts (fun i => a.tmps[i]?)) (st : Stp J M h w J' M' h' w') (hV : V J' M' v u) : SimY B l rl ys ⟨ts.set d v, h'⟩ (a.put (some d) u) w' := by
  refine ⟨fun t ht => ?_, hd, st.keeps st0.hr hl (nc_loop rl), J', M', st0.trans st, ?_, ?_⟩
  · simp only [Act.put]
    rw [Array.getElem?_setIfInBounds_ne (by rintro rfl; exact hy ht)]
    exact h0 t ht
  · simp [Act.put, hs]
  · exact Vs_set hs (Vs_mono st.jle st.mle _ _ _ (fun _ _ k => k) hv) _ hV
theorem stepY {B : Bs} {l : Nat} {rl : Loop} {ys : List Nat} {rr : Option Nat} {nn : Nat} {ops : Array Oper} {Q : Exit → Act → World → Prop} {i : Nat} {is : List Nat} {o : Oper} {ts : List AV} {h h' : Hp} {a : Act} {w : World} {v : AV} (d : Nat) (ho : ops[i]? = some o) (hg : o.guard = none) (hd : o.dst = some d) (hy : d ∉ ys)
    (hk : aop P (fun _ => none) o ⟨ts, h⟩ (fun v h => some (some (v, h))) (fun _ _ => some none) = some (some (v, h'))) (hs : SimY B l rl ys ⟨ts, h⟩ a w) (hn : ∀ a' w', SimY B l rl ys ⟨ts.set d v, h'⟩ a' w' → wpOpsIn (FW rr) nn P ops Q is a' w') :
    wpOpsIn (FW rr) nn P ops Q (i :: is) a w := by
  obtain ⟨h0, hdf, hl, J, M, st0, hsz, hv⟩ := hs
  simp only [wpOpsIn, ho]
  rw [if_pos (by simp [Region.wanted, hg])]
  refine wp_in (aop_nodefer hk) (op_res hk J M w a st0.hr hsz hv _ _ fun J' M' w' u st hV => ?_)
  rw [hd]
  exact hn _ _ (SimY.put hy h0 hdf hl st0 hsz hv st hV)
/-- The copy of yield. -/
theorem stepM {B : Bs} {l : Nat} {rl : Loop} {ys : List Nat} {rr : Option Nat} {nn : Nat} {ops : Array Oper} {Q : Exit → Act → World → Prop} {i : Nat} {is : List Nat} {o : Oper} {ts : List AV} {h : Hp} {a : Act} {w : World} (d t : Nat) (ho : ops[i]? = some o) (hg : o.guard = none) (hd : o.dst = some d) (hm : o.op = .move (.tmp t)) (hy : d ∉ ys) (ht : t ∈ ys)
    (hs : SimY B l rl ys ⟨ts, h⟩ a w) (hlt : d < ts.length) (hn : ∀ a' w', SimY B l rl (d :: ys) ⟨ts.set d .any, h⟩ a' w' → wpOpsIn (FW rr) nn P ops Q is a' w') :
    wpOpsIn (FW rr) nn P ops Q (i :: is) a w := by
  obtain ⟨h0, hdf, hl, J, M, st0, hsz, hv⟩ := hs
  simp only [wpOpsIn, ho]
  rw [if_pos (by simp [Region.wanted, hg])]
  have hev : a.eval (.tmp t) = .func (.yield l) #[] #[] := by
    have := h0 t ht
    simp only [Act.eval, Array.getD_eq_getD_getElem?, this, Option.getD_some]
  refine wp_in (by rw [hm]; intro c hc; cases hc) (wp_val (u := .func (.yield l) #[] #[]) (w' := w) (by simp [execOp, hm, hev]) ?_)
  rw [hd]
  obtain ⟨h1, h2, h3, h4⟩ := SimY.put (v := .any) (u := .func (.yield l) #[] #[]) hy h0 hdf hl st0 hsz hv (Stp.refl st0.hr) (by simp [V])
  refine hn _ _ ⟨fun t' ht' => ?_, h2, h3, h4⟩
  rcases List.mem_cons.1 ht' with rfl | ht'
  · simp only [Act.put]
    rw [Array.getElem?_setIfInBounds_self, if_pos (by simp only at hsz; omega)]
  · exact h1 t' ht'
theorem SimY.keep {B : Bs} {l : Nat} {rl : Loop} {ys ys' : List Nat} {ts : List AV} {h : Hp} {a : Act} {w : World} (hs : SimY B l rl ys ⟨ts, h⟩ a w) (keep : List Nat) (hy : ∀ t ∈ ys', t ∈ ys) : SimY B l rl ys' ⟨keepA keep 0 ts, h⟩ a w := by
  obtain ⟨h0, hdf, hl, J, M, st0, hsz, hv⟩ := hs
  refine ⟨fun t ht => h0 t (hy t ht), hdf, hl, J, M, st0, by rw [hsz]; exact (keepA_length _ _ _).symm, Vs_iff.2 fun i y hy => ?_⟩
  rcases keepA_get _ _ _ _ _ hy with rfl | hy'
  · have hlt := (List.getElem?_eq_some_iff.1 hy).1
    rw [keepA_length, ← show a.tmps.size = ts.length from hsz] at hlt
    exact ⟨a.tmps[i], by simp [hlt], by simp [V]⟩
  · exact Vs_iff.1 hv _ _ hy'
def tsY (p : AV) (i : Int) : List AV := [.any, p, .any, ai i, .any, .any, .any, .any, .any, .any, .any, .any, .any, .any, .any, .any, .any, .any, .any]
/-- A round with the n-th element x. -/
def RoundOk (P : Program) (B : Bs) (l : Nat) (rl : Loop) (n : Nat) (x : Int) (h h' : Hp) : Prop :=
  ∀ nn J M w, Stp B.J B.M B.h B.w J M h w → w.heap[l]? = some (.loop rl) →
    RoundIn (FW none) nn P l rl.fn ((rl.params.zip #[.int .i64 n, .int .i64 x]).foldl (fun tmps (t, a) => tmps.setIfInBounds t a) rl.tmps) rl.assign rl.body w
      (fun e w' => e = .returned (.bool true) ∧ ∃ J' M', Stp J M h w J' M' h' w')
inductive BkR (P : Program) (B : Bs) (l : Nat) (rl : Loop) (p : AV) : Nat → Hp → Hp → Prop
  | done (h : Hp) : BkR P B l rl p 0 h h
  | next (n : Nat) (h h1 h2 : Hp) (s q : AV) (x : Int) (hs : cellAt h p 0 = some s) (hq : ixa 1 s n some = some q) (hx : cellAt h q 0 = some (ai x)) (hr : RoundOk P B l rl n x h h1) (hn : BkR P B l rl p n h1 h2) : BkR P B l rl p (n + 1) h h2
theorem tsY_next (p a7 a8 a11 a12 a13 a14 a15 a16 a17 a18 a9 a10 : AV) (z0 z : Int) : keepA [1, 3] 0 (((((((((((((tsY p z0).set 7 a7).set 8 a8).set 11 a11).set 12 a12).set 13 a13).set 14 a14).set 15 a15).set 16 a16).set 17 a17).set 18 a18).set 9 a9).set 10 a10 |>.set 3 (ai z)) = tsY p z := by
  simp only [tsY, List.set]
  rfl
/-- The loop of what 'Backward' hands back. -/
theorem back_loop {f : FuncId} {s i b y e : TypeId} {fn : Func} {by_ : Nat} (hb : BackIs P f s i b y e fn by_) {B : Bs} {l : Nat} {rl : Loop} (hps : rl.params.size = 2) {p : AV} {n : Nat} {h h' : Hp} (H : BkR P B l rl p n h h') :
    ∀ (nn : Nat) (a : Act) (w : World), (n : Int) ≤ room → SimY B l rl [0] ⟨tsY p ((n : Int) - 1), h⟩ a w →
      Code.roundsIn (FW none) nn P (.seq (.seq (.region 1 #[
        bop 7 (.move (.tmp 3)) i "iter.go:28" #[],
        bop 8 (.binOp .geq i (.tmp 7) (.const (.int .i64 0)) i) b "iter.go:28" #[⟨0, .data⟩]] false)
      (.cond (.tmp 8) .skip (.exit 0)))
    (.seq (.block 1 (.seq (.region 3 #[
        bop 11 (.move (.tmp 0)) y "iter.go:29" #[],
        bop 12 (.move (.tmp 3)) i "iter.go:29" #[],
        bop 13 (.load s (.tmp 1)) s "iter.go:29" #[],
        bop 14 (.move (.tmp 3)) i "iter.go:29" #[],
        bop 15 (.indexAddr s (.tmp 13) (.tmp 14)) 0 "iter.go:29" #[⟨2, .data⟩, ⟨3, .data⟩],
        bop 16 (.load i (.tmp 15)) i "iter.go:29" #[⟨4, .data⟩],
        bop 17 (.call { callee := .value (.tmp 11), args := #[.tmp 12, .tmp 16], argTypes := #[i, i] }) b "iter.go:29" #[⟨0, .data⟩, ⟨1, .data⟩, ⟨5, .data⟩],
        bop 18 (.unOp .not b (.tmp 17)) b "iter.go:29" #[⟨6, .data⟩]] false)
      (.cond (.tmp 18) .ret .skip)))
      (.region 2 #[
        bop 9 (.move (.tmp 3)) i "iter.go:28" #[],
        bop 10 (.binOp .sub i (.tmp 9) (.const (.int .i64 1)) i) i "iter.go:28" #[⟨0, .data⟩],
        bop 3 (.assign (.tmp 10)) i "iter.go:28" #[⟨1, .data⟩, ⟨0, .phase⟩, ⟨1, .phase⟩]] false)))
      (fun x a' w' => x = .exit 0 ∧ ∃ ts, SimY B l rl [0] ⟨ts, h'⟩ a' w') (n + 1) a w := by
  obtain ⟨_, _, _, _, hs1, hi1, hb1⟩ := hb
  have geq : ∀ (z : Int) (ts : List AV) (h : Hp) (hz : tget ts 7 = ai z), aop P (fun _ => none) (bop 8 (.binOp .geq i (.tmp 7) (.const (.int .i64 0)) i) b "iter.go:28" #[⟨0, .data⟩]) ⟨ts, h⟩ (fun v h => some (some (v, h))) (fun _ _ => some none) = some (some (ab (decide (z ≥ 0)), h)) := by
    intro z ts h hz
    simp [aop, bop, binK, nilConst, bsq, hi1, aeval, hz, ofVal, asInt]
  have head : ∀ (n : Int) (h : Hp) (nn : Nat) (a : Act) (w : World) (Q : Exit → Act → World → Prop), SimY B l rl [0] ⟨tsY p n, h⟩ a w →
      (∀ a' w', SimY B l rl [0] ⟨((tsY p n).set 7 (ai n)).set 8 (ab (decide (n ≥ 0))), h⟩ a' w' → (Code.cond (.tmp 8) .skip (.exit 0)).wpIn (FW none) nn P Q a' w') →
      (Code.seq (.region 1 #[
        bop 7 (.move (.tmp 3)) i "iter.go:28" #[],
        bop 8 (.binOp .geq i (.tmp 7) (.const (.int .i64 0)) i) b "iter.go:28" #[⟨0, .data⟩]] false)
      (.cond (.tmp 8) .skip (.exit 0))).wpIn (FW none) nn P Q a w := by
    intro n h nn a w Q hS hn
    refine wpIn_seq (wpIn_region ?_)
    refine stepY 7 (v := ai n) (h' := h) rfl rfl rfl (by decide) rfl hS fun a w hS => ?_
    refine stepY 8 rfl rfl rfl (by decide) (geq n _ _ rfl) hS fun a w hS => ?_
    exact hn a w hS
  have val8 : ∀ {ys : List Nat} {ts : List AV} {h : Hp} {a : Act} {w : World} {c : Bool} {t : Nat}, SimY B l rl ys ⟨ts, h⟩ a w → tget ts t = ab c → a.eval (.tmp t) = .bool c := by
    intro ys ts h a w c t hS hc
    obtain ⟨_, _, _, J, M, st, hsz, hv⟩ := hS
    have := eval_rel hsz hv (.tmp t)
    rw [show aeval ts (.tmp t) = ab c from hc] at this
    exact V_bool this
  induction H with
  | done h =>
    intro nn a w hn hS
    rw [roundsIn_succ]
    refine wpIn_seq (head _ _ _ _ _ _ hS fun a w hS => ?_)
    refine wpIn_cond_false (val8 hS rfl) (wpIn_exit ?_)
    exact ⟨rfl, _, hS⟩
  | next n h h1 h2 sv q x hs hq hx hr hn ih =>
    intro nn a w hle hS
    rw [roundsIn_succ]
    have hcast : ((n + 1 : Nat) : Int) - 1 = (n : Int) := by omega
    rw [hcast] at hS
    refine wpIn_seq (head _ _ _ _ _ _ hS fun a w hS => ?_)
    have hpos : decide ((n : Int) ≥ 0) = true := by simp
    rw [hpos] at hS
    refine wpIn_cond_true (val8 hS rfl) (wpIn_skip ?_)
    refine wpIn_seq (wpIn_block (wpIn_seq (wpIn_region ?_)))
    have ldsl : ∀ (d t : Nat) (ps : String) (af : Array Edge) (ts : List AV), tget ts t = p → aop P (fun _ => none) (bop d (.load s (.tmp t)) s ps af) ⟨ts, h⟩ (fun v h => some (some (v, h))) (fun _ _ => some none) = some (some (sv, h)) := by
      intro d t ps af ts ht
      simp [aop, bop, (elemSz_inv hs1).1, aeval, ht, ldv, hs]
    refine stepM 11 0 rfl rfl rfl rfl (by decide) (by decide) hS (show 11 < 19 by decide) fun a w hS => ?_
    refine stepY 12 (v := ai n) (h' := h) rfl rfl rfl (by decide) rfl hS fun a w hS => ?_
    refine stepY 13 (v := sv) (h' := h) rfl rfl rfl (by decide) (ldsl _ _ _ _ _ rfl) hS fun a w hS => ?_
    refine stepY 14 (v := ai n) (h' := h) rfl rfl rfl (by decide) rfl hS fun a w hS => ?_
    have hq' : ∀ {R : Type} (K : AV → Option R), ixa 1 sv n K = K q := by
      intro R K
      unfold ixa at hq ⊢
      split at hq
      · split at hq
        · rename_i hc
          cases hq
          simp only [if_pos hc]
        · cases hq
      · split at hq
        · rename_i hc
          cases hq
          simp only [if_pos hc]
        · cases hq
      · cases hq
    have ixq : ∀ (d t u : Nat) (ty : TypeId) (ps : String) (af : Array Edge) (ts : List AV), tget ts t = sv → tget ts u = ai n → aop P (fun _ => none) (bop d (.indexAddr s (.tmp t) (.tmp u)) ty ps af) ⟨ts, h⟩ (fun v h => some (some (v, h))) (fun _ _ => some none) = some (some (q, h)) := by
      intro d t u ty ps af ts ht hu
      simp [aop, bop, hs1, aeval, ht, hu, asInt, hq']
    have ldx : ∀ (d t : Nat) (ps : String) (af : Array Edge) (ts : List AV), tget ts t = q → aop P (fun _ => none) (bop d (.load i (.tmp t)) i ps af) ⟨ts, h⟩ (fun v h => some (some (v, h))) (fun _ _ => some none) = some (some (ai x, h)) := by
      intro d t ps af ts ht
      simp [aop, bop, hi1, aeval, ht, ldi, ldv, hx, asInt0]
    refine stepY 15 (v := q) (h' := h) rfl rfl rfl (by decide) (ixq _ _ _ _ _ _ _ rfl rfl) hS fun a w hS => ?_
    refine stepY 16 (v := ai x) (h' := h) rfl rfl rfl (by decide) (ldx _ _ _ _ _ rfl) hS fun a w hS => ?_
    -- the call of yield
    have key : ∀ (ts : List AV) (a : Act) (w : World) (is : List Nat) (Q : Exit → Act → World → Prop) (ops : Array Oper), ops[6]? = some (bop 17 (.call { callee := .value (.tmp 11), args := #[.tmp 12, .tmp 16], argTypes := #[i, i] }) b "iter.go:29" #[⟨0, .data⟩, ⟨1, .data⟩, ⟨5, .data⟩]) → tget ts 12 = ai n → tget ts 16 = ai x →
        SimY B l rl [11, 0] ⟨ts, h⟩ a w → (∀ a' w', SimY B l rl [11, 0] ⟨ts.set 17 (ab true), h1⟩ a' w' → wpOpsIn (FW none) nn P ops Q is a' w') → wpOpsIn (FW none) nn P ops Q (6 :: is) a w := by
      intro ts a w is Q ops ho h12 h16 hS hn
      obtain ⟨h0, hdf, hl, J, M, st0, hsz, hv⟩ := hS
      simp only [wpOpsIn, ho]
      rw [if_pos (by simp [Region.wanted, bop])]
      have e11 : a.eval (.tmp 11) = .func (.yield l) #[] #[] := by
        have := h0 11 (by simp)
        simp only [Act.eval, Array.getD_eq_getD_getElem?, this, Option.getD_some]
      have e12 : a.eval (.tmp 12) = .int .i64 n := by
        have := eval_rel hsz hv (.tmp 12)
        rw [show aeval ts (.tmp 12) = _ from h12] at this
        exact V_int this
      have e16 : a.eval (.tmp 16) = .int .i64 x := by
        have := eval_rel hsz hv (.tmp 16)
        rw [show aeval ts (.tmp 16) = _ from h16] at this
        exact V_int this
      refine ⟨fun _ _ => trivial, ?_⟩
      rw [Oper.semAt_eq _ _ _ (by intro c hc; cases hc)]
      have hrun : (execOp a.eval (bop 17 (.call { callee := .value (.tmp 11), args := #[.tmp 12, .tmp 16], argTypes := #[i, i] }) b "iter.go:29" #[⟨0, .data⟩, ⟨1, .data⟩, ⟨5, .data⟩])).run P w =
          .ok (.round l rl.fn ((rl.params.zip #[.int .i64 n, .int .i64 x]).foldl (fun tmps (t, a) => tmps.setIfInBounds t a) rl.tmps) rl.assign rl.body) w := by
        have := run_yield (P := P) (w := w) (l := l) (r := rl) (args := #[.int .i64 n, .int .i64 x]) hl (by simp [hps])
        simp [execOp, bop, resolve, e11, e12, e16, Deferred.ofValue, invoke, this]
      rw [hrun, Oper.uponIn_round]
      refine ⟨fun h => (by cases h), (hr (nn - 1) J M w st0 hl).mono fun e w' he => ?_⟩
      obtain ⟨rfl, J', M', st⟩ := he
      exact hn _ _ (SimY.put (by decide) h0 hdf hl st0 hsz hv st (V_bool' true))
    refine key _ _ _ _ _ _ rfl rfl rfl hS fun a w hS => ?_
    have notx : ∀ (d t : Nat) (ps : String) (af : Array Edge) (ts : List AV), tget ts t = ab true → aop P (fun _ => none) (bop d (.unOp .not b (.tmp t)) b ps af) ⟨ts, h1⟩ (fun v h => some (some (v, h))) (fun _ _ => some none) = some (some (ab false, h1)) := by
      intro d t ps af ts ht
      simp [aop, bop, aeval, ht, unK, asBool]
    refine stepY 18 (v := ab false) (h' := h1) rfl rfl rfl (by decide) (notx _ _ _ _ _ rfl) hS fun a w hS => ?_
    refine wpIn_cond_false (val8 hS rfl) (wpIn_skip ?_)
    refine wpIn_region ?_
    have subx : ∀ (d t : Nat) (ps : String) (af : Array Edge) (ts : List AV), tget ts t = ai n → aop P (fun _ => none) (bop d (.binOp .sub i (.tmp t) (.const (.int .i64 1)) i) i ps af) ⟨ts, h1⟩ (fun v h => some (some (v, h))) (fun _ _ => some none) = some (some (ai ((n : Int) - 1), h1)) := by
      intro d t ps af ts ht
      have hw : IntKind.i64.wrap ((n : Int) - 1) = (n : Int) - 1 := by
        cases n with
        | zero => decide
        | succ m => exact wrap_small (by omega) (by unfold room at hle; omega)
      simp [aop, bop, binK, nilConst, bsq, hi1, aeval, ht, ofVal, asInt, wri, hw]
    refine stepY 9 (v := ai n) (h' := h1) rfl rfl rfl (by decide) rfl hS fun a w hS => ?_
    refine stepY 10 rfl rfl rfl (by decide) (subx _ _ _ _ _ rfl) hS fun a w hS => ?_
    refine stepY 3 (v := ai ((n : Int) - 1)) (h' := h1) rfl rfl rfl (by decide) rfl hS fun a w hS => ?_
    have hS := hS.keep [1, 3] (ys' := [0]) (by simp)
    rw [tsY_next] at hS
    exact ih nn a w (by omega) hS
/-- What 'Backward' hands back, called with yield. -/
theorem back_calls {f : FuncId} {s i b y e : TypeId} {fn : Func} {by_ : Nat} (hb : BackIs P f s i b y e fn by_) {J M h w} (hr : HR J M h w) {l : Nat} {rl : Loop} (hl : w.heap[l]? = some (.loop rl)) (hps : rl.params.size = 2) {p sv : AV} {m : Nat} {h' : Hp}
    (hs : cellAt h p 0 = some sv) (hm : bkn sv some = some m) {D : List Deferred} (H : BkR P ⟨J, M, h, w, D, false⟩ l rl p m h h') {pv : Value} (hp : V J M p pv) (nn : Nat) :
    CallsIn (FW none) nn P f #[.func (.yield l) #[] #[], pv] w (fun e w' => (∃ v, e = .returned v) ∧ ∃ J' M', Stp J M h w J' M' h' w') := by
  have hb' := hb
  obtain ⟨hf, hbody, hnt, hres, hs1, hi1, hb1⟩ := hb
  have hm' : ∃ z : Int, lna sv some = some z ∧ z ≤ room ∧ z.toNat = m ∧ 0 ≤ z := by
    unfold bkn lna at hm
    unfold lna
    split at hm <;> simp only [Option.some.injEq, reduceCtorEq] at hm ⊢
    · split at hm
      · cases hm; exact ⟨_, rfl, ‹_›, rfl, by omega⟩
      · cases hm
    · split at hm
      · cases hm; exact ⟨_, rfl, ‹_›, rfl, by omega⟩
      · cases hm
    · split at hm
      · cases hm; exact ⟨_, rfl, ‹_›, rfl, by omega⟩
      · cases hm
  obtain ⟨z, hm', hle, hz, hz0⟩ := hm'
  obtain rfl : z = (m : Int) := by omega
  have hm2 : ∀ {R : Type} (K : Int → Option R), lna sv K = K m := by
    intro R K
    unfold lna at hm' ⊢
    split at hm' <;> simp_all
  refine callsIn_of_wp hf hbody trivial ?_
  rw [hnt]
  refine wpIn_seq (wpIn_region ?_)
  have hS : SimY ⟨J, M, h, w, D, false⟩ l rl [0] ⟨tsY p 0 |>.set 3 .any, h⟩ { tmps := #[.func (.yield l) #[] #[], pv] ++ Array.replicate (19 - (#[.func (.yield l) #[] #[], pv] : Array Value).size) undef, defers := [] } w := by
    refine ⟨by simp, rfl, hl, J, M, Stp.refl hr, by simp [tsY], ?_⟩
    simp [Vs, V, tsY, hp]
  have ldsl : ∀ (d t : Nat) (ps : String) (af : Array Edge) (ts : List AV), tget ts t = p → aop P (fun _ => none) (bop d (.load s (.tmp t)) s ps af) ⟨ts, h⟩ (fun v h => some (some (v, h))) (fun _ _ => some none) = some (some (sv, h)) := by
    intro d t ps af ts ht
    simp [aop, bop, (elemSz_inv hs1).1, aeval, ht, ldv, hs]
  have lenx : ∀ (d t : Nat) (ps : String) (af : Array Edge) (ts : List AV), tget ts t = sv → aop P (fun _ => none) (bop d (.call { callee := .builtin .len, args := #[.tmp t], argTypes := #[s] }) i ps af) ⟨ts, h⟩ (fun v h => some (some (v, h))) (fun _ _ => some none) = some (some (ai m, h)) := by
    intro d t ps af ts ht
    simp [aop, bop, callO, (elemSz_inv hs1).1, aeval, ht, hm2]
  have subx : ∀ (d t : Nat) (ps : String) (af : Array Edge) (ts : List AV), tget ts t = ai m → aop P (fun _ => none) (bop d (.binOp .sub i (.tmp t) (.const (.int .i64 1)) i) i ps af) ⟨ts, h⟩ (fun v h => some (some (v, h))) (fun _ _ => some none) = some (some (ai ((m : Int) - 1), h)) := by
    intro d t ps af ts ht
    have hw : IntKind.i64.wrap ((m : Int) - 1) = (m : Int) - 1 := by
      cases m with
      | zero => decide
      | succ m => exact wrap_small (by omega) (by unfold room at hle; omega)
    simp [aop, bop, binK, nilConst, bsq, hi1, aeval, ht, ofVal, asInt, wri, hw]
  refine stepY 4 (v := sv) (h' := h) rfl rfl rfl (by decide) (ldsl _ _ _ _ _ rfl) hS fun a w1 hS => ?_
  refine stepY 5 (v := ai m) (h' := h) rfl rfl rfl (by decide) (lenx _ _ _ _ _ rfl) hS fun a w1 hS => ?_
  refine stepY 6 rfl rfl rfl (by decide) (subx _ _ _ _ _ rfl) hS fun a w1 hS => ?_
  refine stepY 3 (v := ai ((m : Int) - 1)) (h' := h) rfl rfl rfl (by decide) rfl hS fun a w1 hS => ?_
  have hS := hS.keep [1, 3] (ys' := [0]) (by simp)
  have e0 : ∀ (a4 a5 a6 : AV) (z : Int), keepA [1, 3] 0 ((((((tsY p 0).set 3 .any).set 4 a4).set 5 a5).set 6 a6).set 3 (ai z)) = tsY p z := by
    intro a4 a5 a6 z
    simp only [tsY, List.set]
    rfl
  rw [e0] at hS
  refine wpIn_block (wpIn_mono (wpIn_loop_rounds _ (back_loop hb' hps H nn a w1 hle hS)) fun x a' w' hx => ?_)
  obtain ⟨rfl, ts, h0, hd, _, J', M', st, _⟩ := hx
  refine ⟨hd, .tuple #[], ?_, ⟨_, rfl⟩, J', M', st⟩
  simp [results, hres]
end
end Go.Proofs.Ytknphnmhjmejaaa
