/- Joined texts: AmR, AmSi. No conditions but those of each. -/
import Derived.Test.YtknphnmhjmejaaaJ3
import Derived.RangeFuncRecord
import Derived.Shelf.Abstract
import Derived.RangeFuncIn
/-  The abstract machine: ranges over what 'slices.Backward' hands back. No conditions. -/
namespace Go.Proofs.Ytknphnmhjmejaaa
set_option linter.unusedVariables false
def notCells (o : Obj) : Prop := ∀ c t s, o ≠ .cells c t s
theorem nc_loop (r : Loop) : notCells (.loop r) := fun _ _ _ h => by cases h
theorem nc_def (x) : notCells (.deferred x) := fun _ _ _ h => by cases h
theorem not_owned_nc {J M h w} (hr : HR J M h w) {b : Nat} {o : Obj} (hb : w.heap[b]? = some o) (hn : notCells o) : ¬ owned J h b := by
  rintro ⟨k, ob, e, ho, he, rfl⟩
  obtain ⟨e', c, t, he', _, hc, _⟩ := hr.ob k ob ho he
  rw [he] at he'
  cases he'
  rw [hb] at hc
  exact hn _ _ _ (Option.some.inj hc)
theorem Stp.keeps {J M h w J' M' h' w'} (st : Stp J M h w J' M' h' w') (hr : HR J M h w) {b : Nat} {o : Obj} (hb : w.heap[b]? = some o) (hn : notCells o) : w'.heap[b]? = some o := by
  rw [st.fr.block b (lt_of_cells hb) (not_owned_nc hr hb hn)]
  exact hb
theorem put_cells {w : World} {l : Nat} {o o' : Obj} (ho : w.heap[l]? = some o) (hn : notCells o) (b : Nat) (c : Array Value) (t : TypeId) (s) (hb : w.heap[b]? = some (Obj.cells c t s)) : (w.putObj l o').heap[b]? = some (Obj.cells c t s) := by
  rw [World.putObj_heap_other]
  · exact hb
  · rintro rfl
    rw [ho] at hb
    exact hn _ _ _ (Option.some.inj hb)
/-- A block that holds no cells becomes another such. -/
theorem HR.far {J M h w} (hr : HR J M h w) {l : Nat} {o : Obj} (o' : Obj) (ho : w.heap[l]? = some o) (hn : notCells o) : HR J M h (w.putObj l o') := by
  refine ⟨?_, hr.key, hr.inj, fun a v k => ?_, hr.sep⟩
  · intro k ob hk
    rcases hr.ob0 k ob hk with hd | ⟨e, c, t, h1, h2, h3, h4, h5⟩
    · exact .inl hd
    exact .inr ⟨e, c, t, h1, h2, put_cells ho hn _ _ _ _ h3, h4, h5⟩
  · have hv := hr.im a v k
    unfold World.cell? at hv ⊢
    split at hv
    · rename_i c t s hc
      rw [put_cells ho hn _ _ _ _ hc]
      exact hv
    · cases hv
theorem Stp.far {J M h w J' M' h' w'} (st : Stp J M h w J' M' h' w') {l : Nat} (hl : w.heap.size ≤ l) {o : Obj} (o' : Obj) (ho : w'.heap[l]? = some o) (hn : notCells o) : Stp J M h w J' M' h' (w'.putObj l o') := by
  refine ⟨st.jle, st.mle, st.hr.far o' ho hn, st.len, ⟨st.fr.os, st.fr.tape, st.fr.output, ?_, fun b hb hob => ?_⟩, st.mnew, st.onew, st.jfr⟩
  · rw [World.putObj_size]
    exact st.fr.size
  · rw [World.putObj_heap_other (by omega)]
    exact st.fr.block b hb hob
/-- A block that holds no cells is another one for a while. -/
theorem Stp.round {J M h w J1 M1 h1 w1 J3 M3 h3 w3} (st1 : Stp J M h w J1 M1 h1 w1) {l : Nat} {o1 o2 : Obj} (h0 : w.heap[l]? = some o1) (n1 : notCells o1) (n2 : notCells o2) (st3 : Stp J1 M1 h1 (w1.putObj l o2) J3 M3 h3 w3) (hl3 : w3.heap[l]? = some o2) :
    Stp J M h w J3 M3 h3 (w3.putObj l o1) := by
  have hs1 : (w1.putObj l o2).heap.size = w1.heap.size := World.putObj_size
  refine ⟨st1.jle.trans st3.jle, st1.mle.trans st3.mle, st3.hr.far o1 hl3 n2, Nat.le_trans st1.len st3.len, ⟨st3.fr.os.trans st1.fr.os, st3.fr.tape.trans st1.fr.tape, st3.fr.output.trans st1.fr.output, ?_, fun b hb hob => ?_⟩, fun a v k => ?_, fun b k => ?_, fun o q e k => ?_⟩
  · rw [World.putObj_size]
    have := st3.fr.size
    rw [hs1] at this
    exact Nat.le_trans st1.fr.size this
  · by_cases hbl : b = l
    · subst hbl
      rw [World.putObj_heap_same (lt_of_cells hl3), h0]
    · rw [World.putObj_heap_other hbl, st3.fr.block b (by rw [hs1]; exact Nat.lt_of_lt_of_le hb st1.fr.size) (fun k => ?_), World.putObj_heap_other hbl, st1.fr.block b hb hob]
      rcases st1.onew b k with k | k
      · exact hob k
      · omega
  · rcases st3.mnew a v k with k | k | k
    · exact st1.mnew a v k
    · rcases st1.onew _ k with k | k
      · exact .inr (.inl k)
      · exact .inr (.inr k)
    · rw [hs1] at k
      exact .inr (.inr (Nat.le_trans st1.fr.size k))
  · rcases st3.onew b k with k | k
    · exact st1.onew b k
    · rw [hs1] at k
      exact .inr (Nat.le_trans st1.fr.size k)
  · rcases st3.jfr o q e k with k | ⟨q0, e0, k⟩
    · exact .inl (Nat.le_trans st1.len k)
    · exact st1.jfr o q0 e0 k
theorem keepA_get (keep : List Nat) : ∀ (l : List AV) (n i : Nat) (x : AV), (keepA keep n l)[i]? = some x → x = .any ∨ l[i]? = some x
  | [], n, i, x, h => by simp [keepA] at h
  | v :: vs, n, i, x, h => by
    simp only [keepA] at h
    cases hc : keep.contains n with
    | true =>
      rw [hc] at h
      simp only [cond_true] at h
      cases i with
      | zero => exact .inr h
      | succ i => exact keepA_get keep vs (n + 1) i x (by simpa using h)
    | false =>
      rw [hc] at h
      simp only [cond_false] at h
      cases i with
      | zero => simp at h; exact .inl h.symm
      | succ i => exact keepA_get keep vs (n + 1) i x (by simpa using h)
theorem keepA_length (keep : List Nat) : ∀ (l : List AV) (n : Nat), (keepA keep n l).length = l.length
  | [], n => rfl
  | v :: vs, n => by
    simp only [keepA]
    cases keep.contains n <;> simp [keepA_length keep vs (n + 1)]
theorem Stp.laid {J M h w} (hr : HR J M h w) (o : Obj) : Stp J M h w J M h (w.alloc o) := by
  refine Stp.fresh (w' := w.alloc o) hr ⟨rfl, rfl, rfl, ?_, fun b hb _ => heap_old w o hb⟩ (MLe.refl M) (fun a v k => ?_) (fun _ _ k => .inl k)
  · show _ ≤ (w.heap.push o).size
    simp
  · have := hr.im a v k
    unfold World.cell? at this ⊢
    split at this
    · rename_i c t s hc
      rw [heap_old w o (lt_of_cells hc), hc]
      exact this
    · cases this
section
variable {P : Program}
theorem op_res {o : Oper} {ts : List AV} {h h' : Hp} {v : AV} (hk : aop P (fun _ => none) o ⟨ts, h⟩ (fun v h => some (some (v, h))) (fun _ _ => some none) = some (some (v, h'))) : OpRes P o ts h v h' := by
  rcases aop_sound (P := P) (Γ := fun _ => none) (fun f c hf => by cases hf) hk with ⟨v1, h1, e, H⟩ | ⟨v1, h1, e, H⟩
  · cases e; exact H
  · cases e
/-- The frame of what 'Backward' hands back: where it calls yield, the record; the rest as ever. -/
def SimY (B : Bs) (l : Nat) (rl : Loop) (ys : List Nat) (σ : St) (a : Act) (w : World) : Prop :=
  (∀ t ∈ ys, a.tmps[t]? = some (.func (.yield l) #[] #[])) ∧ a.defers = [] ∧ w.heap[l]? = some (.loop rl) ∧
    ∃ J M, Stp B.J B.M B.h B.w J M σ.heap w ∧ a.tmps.size = σ.tmps.length ∧ Vs J M σ.tmps (fun i => a.tmps[i]?)
theorem SimY.put {B : Bs} {l : Nat} {rl : Loop} {ys : List Nat} {ts : List AV} {h h' : Hp} {a : Act} {w w' : World} {d : Nat} {v : AV} {u : Value} {J M J' M'} (hy : d ∉ ys) (h0 : ∀ t ∈ ys, a.tmps[t]? = some (.func (.yield l) #[] #[])) (hd : a.defers = []) (hl : w.heap[l]? = some (.loop rl))
    (st0 : Stp B.J B.M B.h B.w J M h w) (hs : a.tmps.size = ts.length) (hv : Vs J M ts (fun i => a.tmps[i]?)) (st : Stp J M h w J' M' h' w') (hV : V J' M' v u) : SimY B l rl ys ⟨ts.set d v, h'⟩ (a.put (some d) u) w' := by
  refine ⟨fun t ht => ?_, hd, st.keeps st0.hr hl (nc_loop rl), J', M', st0.trans st, ?_, ?_⟩
  · simp only [Act.put]
    rw [Array.getElem?_setIfInBounds_ne (by rintro rfl; exact hy ht)]
    exact h0 t ht
  · simp [Act.put, hs]
  · exact Vs_set hs (Vs_mono st.jle st.mle _ _ _ (fun _ _ k => k) hv) _ hV
theorem stepY {B : Bs} {l : Nat} {rl : Loop} {ys : List Nat} {rr : Option Nat} {nn : Nat} {ops : Array Oper} {Q : Exit → Act → World → Prop} {i : Nat} {is : List Nat} {o : Oper} {ts : List AV} {h h' : Hp} {a : Act} {w : World} {v : AV} (d : Nat) (ho : ops[i]? = some o) (hg : o.guard = none) (hd : o.dst = some d) (hy : d ∉ ys)
    (hk : aop P (fun _ => none) o ⟨ts, h⟩ (fun v h => some (some (v, h))) (fun _ _ => some none) = some (some (v, h'))) (hs : SimY B l rl ys ⟨ts, h⟩ a w) (hn : ∀ a' w', SimY B l rl ys ⟨ts.set d v, h'⟩ a' w' → wpOpsIn (FW rr) nn P ops Q is a' w') :
    wpOpsIn (FW rr) nn P ops Q (i :: is) a w := by
  obtain ⟨h0, hdf, hl, J, M, st0, hsz, hv⟩ := hs
  simp only [wpOpsIn, ho]
  rw [if_pos (by simp [Region.wanted, hg])]
  refine wp_in (aop_nodefer hk) (op_res hk J M w a st0.hr hsz hv _ _ fun J' M' w' u st hV => ?_)
  rw [hd]
  exact hn _ _ (SimY.put hy h0 hdf hl st0 hsz hv st hV)
/-- The copy of yield. -/
theorem stepM {B : Bs} {l : Nat} {rl : Loop} {ys : List Nat} {rr : Option Nat} {nn : Nat} {ops : Array Oper} {Q : Exit → Act → World → Prop} {i : Nat} {is : List Nat} {o : Oper} {ts : List AV} {h : Hp} {a : Act} {w : World} (d t : Nat) (ho : ops[i]? = some o) (hg : o.guard = none) (hd : o.dst = some d) (hm : o.op = .move (.tmp t)) (hy : d ∉ ys) (ht : t ∈ ys)
    (hs : SimY B l rl ys ⟨ts, h⟩ a w) (hlt : d < ts.length) (hn : ∀ a' w', SimY B l rl (d :: ys) ⟨ts.set d .any, h⟩ a' w' → wpOpsIn (FW rr) nn P ops Q is a' w') :
    wpOpsIn (FW rr) nn P ops Q (i :: is) a w := by
  obtain ⟨h0, hdf, hl, J, M, st0, hsz, hv⟩ := hs
  simp only [wpOpsIn, ho]
  rw [if_pos (by simp [Region.wanted, hg])]
  have hev : a.eval (.tmp t) = .func (.yield l) #[] #[] := by
    have := h0 t ht
    simp only [Act.eval, Array.getD_eq_getD_getElem?, this, Option.getD_some]
  refine wp_in (by rw [hm]; intro c hc; cases hc) (wp_val (u := .func (.yield l) #[] #[]) (w' := w) (by simp [execOp, hm, hev]) ?_)
  rw [hd]
  obtain ⟨h1, h2, h3, h4⟩ := SimY.put (v := .any) (u := .func (.yield l) #[] #[]) hy h0 hdf hl st0 hsz hv (Stp.refl st0.hr) (by simp [V])
  refine hn _ _ ⟨fun t' ht' => ?_, h2, h3, h4⟩
  rcases List.mem_cons.1 ht' with rfl | ht'
  · simp only [Act.put]
    rw [Array.getElem?_setIfInBounds_self, if_pos (by simp only at hsz; omega)]
  · exact h1 t' ht'
theorem SimY.keep {B : Bs} {l : Nat} {rl : Loop} {ys ys' : List Nat} {ts : List AV} {h : Hp} {a : Act} {w : World} (hs : SimY B l rl ys ⟨ts, h⟩ a w) (keep : List Nat) (hy : ∀ t ∈ ys', t ∈ ys) : SimY B l rl ys' ⟨keepA keep 0 ts, h⟩ a w := by
  obtain ⟨h0, hdf, hl, J, M, st0, hsz, hv⟩ := hs
  refine ⟨fun t ht => h0 t (hy t ht), hdf, hl, J, M, st0, by rw [hsz]; exact (keepA_length _ _ _).symm, Vs_iff.2 fun i y hy => ?_⟩
  rcases keepA_get _ _ _ _ _ hy with rfl | hy'
  · have hlt := (List.getElem?_eq_some_iff.1 hy).1
    rw [keepA_length, ← show a.tmps.size = ts.length from hsz] at hlt
    exact ⟨a.tmps[i], by simp [hlt], by simp [V]⟩
  · exact Vs_iff.1 hv _ _ hy'
def tsY (p : AV) (i : Int) : List AV := [.any, p, .any, ai i, .any, .any, .any, .any, .any, .any, .any, .any, .any, .any, .any, .any, .any, .any, .any]
/-- A round with the n-th element x. -/
def RoundOk (P : Program) (B : Bs) (l : Nat) (rl : Loop) (n : Nat) (x : Int) (h h' : Hp) : Prop :=
  ∀ nn J M w, Stp B.J B.M B.h B.w J M h w → w.heap[l]? = some (.loop rl) →
    RoundIn (FW none) nn P l rl.fn ((rl.params.zip #[.int .i64 n, .int .i64 x]).foldl (fun tmps (t, a) => tmps.setIfInBounds t a) rl.tmps) rl.assign rl.body w
      (fun e w' => e = .returned (.bool true) ∧ ∃ J' M', Stp J M h w J' M' h' w')
inductive BkR (P : Program) (B : Bs) (l : Nat) (rl : Loop) (p : AV) : Nat → Hp → Hp → Prop
  | done (h : Hp) : BkR P B l rl p 0 h h
  | next (n : Nat) (h h1 h2 : Hp) (s q : AV) (x : Int) (hs : cellAt h p 0 = some s) (hq : ixa 1 s n some = some q) (hx : cellAt h q 0 = some (ai x)) (hr : RoundOk P B l rl n x h h1) (hn : BkR P B l rl p n h1 h2) : BkR P B l rl p (n + 1) h h2
theorem tsY_next (p a7 a8 a11 a12 a13 a14 a15 a16 a17 a18 a9 a10 : AV) (z0 z : Int) : keepA [1, 3] 0 (((((((((((((tsY p z0).set 7 a7).set 8 a8).set 11 a11).set 12 a12).set 13 a13).set 14 a14).set 15 a15).set 16 a16).set 17 a17).set 18 a18).set 9 a9).set 10 a10 |>.set 3 (ai z)) = tsY p z := by
  simp only [tsY, List.set]
  rfl
/-- The loop of what 'Backward' hands back. -/
theorem back_loop {f : FuncId} {s i b y e : TypeId} {fn : Func} {by_ : Nat} (hb : BackIs P f s i b y e fn by_) {B : Bs} {l : Nat} {rl : Loop} (hps : rl.params.size = 2) {p : AV} {n : Nat} {h h' : Hp} (H : BkR P B l rl p n h h') :
    ∀ (nn : Nat) (a : Act) (w : World), (n : Int) ≤ room → SimY B l rl [0] ⟨tsY p ((n : Int) - 1), h⟩ a w →
      Code.roundsIn (FW none) nn P (.seq (.seq (.region 1 #[
        bop 7 (.move (.tmp 3)) i "iter.go:28" #[],
        bop 8 (.binOp .geq i (.tmp 7) (.const (.int .i64 0)) i) b "iter.go:28" #[⟨0, .data⟩]] false)
      (.cond (.tmp 8) .skip (.exit 0)))
    (.seq (.block 1 (.seq (.region 3 #[
        bop 11 (.move (.tmp 0)) y "iter.go:29" #[],
        bop 12 (.move (.tmp 3)) i "iter.go:29" #[],
        bop 13 (.load s (.tmp 1)) s "iter.go:29" #[],
        bop 14 (.move (.tmp 3)) i "iter.go:29" #[],
        bop 15 (.indexAddr s (.tmp 13) (.tmp 14)) 0 "iter.go:29" #[⟨2, .data⟩, ⟨3, .data⟩],
        bop 16 (.load i (.tmp 15)) i "iter.go:29" #[⟨4, .data⟩],
        bop 17 (.call { callee := .value (.tmp 11), args := #[.tmp 12, .tmp 16], argTypes := #[i, i] }) b "iter.go:29" #[⟨0, .data⟩, ⟨1, .data⟩, ⟨5, .data⟩],
        bop 18 (.unOp .not b (.tmp 17)) b "iter.go:29" #[⟨6, .data⟩]] false)
      (.cond (.tmp 18) .ret .skip)))
      (.region 2 #[
        bop 9 (.move (.tmp 3)) i "iter.go:28" #[],
        bop 10 (.binOp .sub i (.tmp 9) (.const (.int .i64 1)) i) i "iter.go:28" #[⟨0, .data⟩],
        bop 3 (.assign (.tmp 10)) i "iter.go:28" #[⟨1, .data⟩, ⟨0, .phase⟩, ⟨1, .phase⟩]] false)))
      (fun x a' w' => x = .exit 0 ∧ ∃ ts, SimY B l rl [0] ⟨ts, h'⟩ a' w') (n + 1) a w := by
  obtain ⟨_, _, _, _, hs1, hi1, hb1⟩ := hb
  have geq : ∀ (z : Int) (ts : List AV) (h : Hp) (hz : tget ts 7 = ai z), aop P (fun _ => none) (bop 8 (.binOp .geq i (.tmp 7) (.const (.int .i64 0)) i) b "iter.go:28" #[⟨0, .data⟩]) ⟨ts, h⟩ (fun v h => some (some (v, h))) (fun _ _ => some none) = some (some (ab (decide (z ≥ 0)), h)) := by
    intro z ts h hz
    simp [aop, bop, binK, nilConst, bsq, hi1, aeval, hz, ofVal, asInt]
  have head : ∀ (n : Int) (h : Hp) (nn : Nat) (a : Act) (w : World) (Q : Exit → Act → World → Prop), SimY B l rl [0] ⟨tsY p n, h⟩ a w →
      (∀ a' w', SimY B l rl [0] ⟨((tsY p n).set 7 (ai n)).set 8 (ab (decide (n ≥ 0))), h⟩ a' w' → (Code.cond (.tmp 8) .skip (.exit 0)).wpIn (FW none) nn P Q a' w') →
      (Code.seq (.region 1 #[
        bop 7 (.move (.tmp 3)) i "iter.go:28" #[],
        bop 8 (.binOp .geq i (.tmp 7) (.const (.int .i64 0)) i) b "iter.go:28" #[⟨0, .data⟩]] false)
      (.cond (.tmp 8) .skip (.exit 0))).wpIn (FW none) nn P Q a w := by
    intro n h nn a w Q hS hn
    refine wpIn_seq (wpIn_region ?_)
    refine stepY 7 (v := ai n) (h' := h) rfl rfl rfl (by decide) rfl hS fun a w hS => ?_
    refine stepY 8 rfl rfl rfl (by decide) (geq n _ _ rfl) hS fun a w hS => ?_
    exact hn a w hS
  have val8 : ∀ {ys : List Nat} {ts : List AV} {h : Hp} {a : Act} {w : World} {c : Bool} {t : Nat}, SimY B l rl ys ⟨ts, h⟩ a w → tget ts t = ab c → a.eval (.tmp t) = .bool c := by
    intro ys ts h a w c t hS hc
    obtain ⟨_, _, _, J, M, st, hsz, hv⟩ := hS
    have := eval_rel hsz hv (.tmp t)
    rw [show aeval ts (.tmp t) = ab c from hc] at this
    exact V_bool this
  induction H with
  | done h =>
    intro nn a w hn hS
    rw [roundsIn_succ]
    refine wpIn_seq (head _ _ _ _ _ _ hS fun a w hS => ?_)
    refine wpIn_cond_false (val8 hS rfl) (wpIn_exit ?_)
    exact ⟨rfl, _, hS⟩
  | next n h h1 h2 sv q x hs hq hx hr hn ih =>
    intro nn a w hle hS
    rw [roundsIn_succ]
    have hcast : ((n + 1 : Nat) : Int) - 1 = (n : Int) := by omega
    rw [hcast] at hS
    refine wpIn_seq (head _ _ _ _ _ _ hS fun a w hS => ?_)
    have hpos : decide ((n : Int) ≥ 0) = true := by simp
    rw [hpos] at hS
    refine wpIn_cond_true (val8 hS rfl) (wpIn_skip ?_)
    refine wpIn_seq (wpIn_block (wpIn_seq (wpIn_region ?_)))
    have ldsl : ∀ (d t : Nat) (ps : String) (af : Array Edge) (ts : List AV), tget ts t = p → aop P (fun _ => none) (bop d (.load s (.tmp t)) s ps af) ⟨ts, h⟩ (fun v h => some (some (v, h))) (fun _ _ => some none) = some (some (sv, h)) := by
      intro d t ps af ts ht
      simp [aop, bop, (elemSz_inv hs1).1, aeval, ht, ldv, hs]
    refine stepM 11 0 rfl rfl rfl rfl (by decide) (by decide) hS (show 11 < 19 by decide) fun a w hS => ?_
    refine stepY 12 (v := ai n) (h' := h) rfl rfl rfl (by decide) rfl hS fun a w hS => ?_
    refine stepY 13 (v := sv) (h' := h) rfl rfl rfl (by decide) (ldsl _ _ _ _ _ rfl) hS fun a w hS => ?_
    refine stepY 14 (v := ai n) (h' := h) rfl rfl rfl (by decide) rfl hS fun a w hS => ?_
    have hq' : ∀ {R : Type} (K : AV → Option R), ixa 1 sv n K = K q := by
      intro R K
      unfold ixa at hq ⊢
      split at hq
      · split at hq
        · rename_i hc
          cases hq
          simp only [if_pos hc]
        · cases hq
      · split at hq
        · rename_i hc
          cases hq
          simp only [if_pos hc]
        · cases hq
      · cases hq
    have ixq : ∀ (d t u : Nat) (ty : TypeId) (ps : String) (af : Array Edge) (ts : List AV), tget ts t = sv → tget ts u = ai n → aop P (fun _ => none) (bop d (.indexAddr s (.tmp t) (.tmp u)) ty ps af) ⟨ts, h⟩ (fun v h => some (some (v, h))) (fun _ _ => some none) = some (some (q, h)) := by
      intro d t u ty ps af ts ht hu
      simp [aop, bop, hs1, aeval, ht, hu, asInt, hq']
    have ldx : ∀ (d t : Nat) (ps : String) (af : Array Edge) (ts : List AV), tget ts t = q → aop P (fun _ => none) (bop d (.load i (.tmp t)) i ps af) ⟨ts, h⟩ (fun v h => some (some (v, h))) (fun _ _ => some none) = some (some (ai x, h)) := by
      intro d t ps af ts ht
      simp [aop, bop, hi1, aeval, ht, ldi, ldv, hx, asInt0]
    refine stepY 15 (v := q) (h' := h) rfl rfl rfl (by decide) (ixq _ _ _ _ _ _ _ rfl rfl) hS fun a w hS => ?_
    refine stepY 16 (v := ai x) (h' := h) rfl rfl rfl (by decide) (ldx _ _ _ _ _ rfl) hS fun a w hS => ?_
    -- the call of yield
    have key : ∀ (ts : List AV) (a : Act) (w : World) (is : List Nat) (Q : Exit → Act → World → Prop) (ops : Array Oper), ops[6]? = some (bop 17 (.call { callee := .value (.tmp 11), args := #[.tmp 12, .tmp 16], argTypes := #[i, i] }) b "iter.go:29" #[⟨0, .data⟩, ⟨1, .data⟩, ⟨5, .data⟩]) → tget ts 12 = ai n → tget ts 16 = ai x →
        SimY B l rl [11, 0] ⟨ts, h⟩ a w → (∀ a' w', SimY B l rl [11, 0] ⟨ts.set 17 (ab true), h1⟩ a' w' → wpOpsIn (FW none) nn P ops Q is a' w') → wpOpsIn (FW none) nn P ops Q (6 :: is) a w := by
      intro ts a w is Q ops ho h12 h16 hS hn
      obtain ⟨h0, hdf, hl, J, M, st0, hsz, hv⟩ := hS
      simp only [wpOpsIn, ho]
      rw [if_pos (by simp [Region.wanted, bop])]
      have e11 : a.eval (.tmp 11) = .func (.yield l) #[] #[] := by
        have := h0 11 (by simp)
        simp only [Act.eval, Array.getD_eq_getD_getElem?, this, Option.getD_some]
      have e12 : a.eval (.tmp 12) = .int .i64 n := by
        have := eval_rel hsz hv (.tmp 12)
        rw [show aeval ts (.tmp 12) = _ from h12] at this
        exact V_int this
      have e16 : a.eval (.tmp 16) = .int .i64 x := by
        have := eval_rel hsz hv (.tmp 16)
        rw [show aeval ts (.tmp 16) = _ from h16] at this
        exact V_int this
      refine ⟨fun _ _ => trivial, ?_⟩
      rw [Oper.semAt_eq _ _ _ (by intro c hc; cases hc)]
      have hrun : (execOp a.eval (bop 17 (.call { callee := .value (.tmp 11), args := #[.tmp 12, .tmp 16], argTypes := #[i, i] }) b "iter.go:29" #[⟨0, .data⟩, ⟨1, .data⟩, ⟨5, .data⟩])).run P w =
          .ok (.round l rl.fn ((rl.params.zip #[.int .i64 n, .int .i64 x]).foldl (fun tmps (t, a) => tmps.setIfInBounds t a) rl.tmps) rl.assign rl.body) w := by
        have := run_yield (P := P) (w := w) (l := l) (r := rl) (args := #[.int .i64 n, .int .i64 x]) hl (by simp [hps])
        simp [execOp, bop, resolve, e11, e12, e16, Deferred.ofValue, invoke, this]
      rw [hrun, Oper.uponIn_round]
      refine ⟨fun h => (by cases h), (hr (nn - 1) J M w st0 hl).mono fun e w' he => ?_⟩
      obtain ⟨rfl, J', M', st⟩ := he
      exact hn _ _ (SimY.put (by decide) h0 hdf hl st0 hsz hv st (V_bool' true))
    refine key _ _ _ _ _ _ rfl rfl rfl hS fun a w hS => ?_
    have notx : ∀ (d t : Nat) (ps : String) (af : Array Edge) (ts : List AV), tget ts t = ab true → aop P (fun _ => none) (bop d (.unOp .not b (.tmp t)) b ps af) ⟨ts, h1⟩ (fun v h => some (some (v, h))) (fun _ _ => some none) = some (some (ab false, h1)) := by
      intro d t ps af ts ht
      simp [aop, bop, aeval, ht, unK, asBool]
    refine stepY 18 (v := ab false) (h' := h1) rfl rfl rfl (by decide) (notx _ _ _ _ _ rfl) hS fun a w hS => ?_
    refine wpIn_cond_false (val8 hS rfl) (wpIn_skip ?_)
    refine wpIn_region ?_
    have subx : ∀ (d t : Nat) (ps : String) (af : Array Edge) (ts : List AV), tget ts t = ai n → aop P (fun _ => none) (bop d (.binOp .sub i (.tmp t) (.const (.int .i64 1)) i) i ps af) ⟨ts, h1⟩ (fun v h => some (some (v, h))) (fun _ _ => some none) = some (some (ai ((n : Int) - 1), h1)) := by
      intro d t ps af ts ht
      have hw : IntKind.i64.wrap ((n : Int) - 1) = (n : Int) - 1 := by
        cases n with
        | zero => decide
        | succ m => exact wrap_small (by omega) (by unfold room at hle; omega)
      simp [aop, bop, binK, nilConst, bsq, hi1, aeval, ht, ofVal, asInt, wri, hw]
    refine stepY 9 (v := ai n) (h' := h1) rfl rfl rfl (by decide) rfl hS fun a w hS => ?_
    refine stepY 10 rfl rfl rfl (by decide) (subx _ _ _ _ _ rfl) hS fun a w hS => ?_
    refine stepY 3 (v := ai ((n : Int) - 1)) (h' := h1) rfl rfl rfl (by decide) rfl hS fun a w hS => ?_
    have hS := hS.keep [1, 3] (ys' := [0]) (by simp)
    rw [tsY_next] at hS
    exact ih nn a w (by omega) hS
/-- What 'Backward' hands back, called with yield. -/
theorem back_calls {f : FuncId} {s i b y e : TypeId} {fn : Func} {by_ : Nat} (hb : BackIs P f s i b y e fn by_) {J M h w} (hr : HR J M h w) {l : Nat} {rl : Loop} (hl : w.heap[l]? = some (.loop rl)) (hps : rl.params.size = 2) {p sv : AV} {m : Nat} {h' : Hp}
    (hs : cellAt h p 0 = some sv) (hm : bkn sv some = some m) {D : List Deferred} (H : BkR P ⟨J, M, h, w, D, false⟩ l rl p m h h') {pv : Value} (hp : V J M p pv) (nn : Nat) :
    CallsIn (FW none) nn P f #[.func (.yield l) #[] #[], pv] w (fun e w' => (∃ v, e = .returned v) ∧ ∃ J' M', Stp J M h w J' M' h' w') := by
  have hb' := hb
  obtain ⟨hf, hbody, hnt, hres, hs1, hi1, hb1⟩ := hb
  have hm' : ∃ z : Int, lna sv some = some z ∧ z ≤ room ∧ z.toNat = m ∧ 0 ≤ z := by
    unfold bkn lna at hm
    unfold lna
    split at hm <;> simp only [Option.some.injEq, reduceCtorEq] at hm ⊢
    · split at hm
      · cases hm; exact ⟨_, rfl, ‹_›, rfl, by omega⟩
      · cases hm
    · split at hm
      · cases hm; exact ⟨_, rfl, ‹_›, rfl, by omega⟩
      · cases hm
    · split at hm
      · cases hm; exact ⟨_, rfl, ‹_›, rfl, by omega⟩
      · cases hm
  obtain ⟨z, hm', hle, hz, hz0⟩ := hm'
  obtain rfl : z = (m : Int) := by omega
  have hm2 : ∀ {R : Type} (K : Int → Option R), lna sv K = K m := by
    intro R K
    unfold lna at hm' ⊢
    split at hm' <;> simp_all
  refine callsIn_of_wp hf hbody trivial ?_
  rw [hnt]
  refine wpIn_seq (wpIn_region ?_)
  have hS : SimY ⟨J, M, h, w, D, false⟩ l rl [0] ⟨tsY p 0 |>.set 3 .any, h⟩ { tmps := #[.func (.yield l) #[] #[], pv] ++ Array.replicate (19 - (#[.func (.yield l) #[] #[], pv] : Array Value).size) undef, defers := [] } w := by
    refine ⟨by simp, rfl, hl, J, M, Stp.refl hr, by simp [tsY], ?_⟩
    simp [Vs, V, tsY, hp]
  have ldsl : ∀ (d t : Nat) (ps : String) (af : Array Edge) (ts : List AV), tget ts t = p → aop P (fun _ => none) (bop d (.load s (.tmp t)) s ps af) ⟨ts, h⟩ (fun v h => some (some (v, h))) (fun _ _ => some none) = some (some (sv, h)) := by
    intro d t ps af ts ht
    simp [aop, bop, (elemSz_inv hs1).1, aeval, ht, ldv, hs]
  have lenx : ∀ (d t : Nat) (ps : String) (af : Array Edge) (ts : List AV), tget ts t = sv → aop P (fun _ => none) (bop d (.call { callee := .builtin .len, args := #[.tmp t], argTypes := #[s] }) i ps af) ⟨ts, h⟩ (fun v h => some (some (v, h))) (fun _ _ => some none) = some (some (ai m, h)) := by
    intro d t ps af ts ht
    simp [aop, bop, callO, (elemSz_inv hs1).1, aeval, ht, hm2]
  have subx : ∀ (d t : Nat) (ps : String) (af : Array Edge) (ts : List AV), tget ts t = ai m → aop P (fun _ => none) (bop d (.binOp .sub i (.tmp t) (.const (.int .i64 1)) i) i ps af) ⟨ts, h⟩ (fun v h => some (some (v, h))) (fun _ _ => some none) = some (some (ai ((m : Int) - 1), h)) := by
    intro d t ps af ts ht
    have hw : IntKind.i64.wrap ((m : Int) - 1) = (m : Int) - 1 := by
      cases m with
      | zero => decide
      | succ m => exact wrap_small (by omega) (by unfold room at hle; omega)
    simp [aop, bop, binK, nilConst, bsq, hi1, aeval, ht, ofVal, asInt, wri, hw]
  refine stepY 4 (v := sv) (h' := h) rfl rfl rfl (by decide) (ldsl _ _ _ _ _ rfl) hS fun a w1 hS => ?_
  refine stepY 5 (v := ai m) (h' := h) rfl rfl rfl (by decide) (lenx _ _ _ _ _ rfl) hS fun a w1 hS => ?_
  refine stepY 6 rfl rfl rfl (by decide) (subx _ _ _ _ _ rfl) hS fun a w1 hS => ?_
  refine stepY 3 (v := ai ((m : Int) - 1)) (h' := h) rfl rfl rfl (by decide) rfl hS fun a w1 hS => ?_
  have hS := hS.keep [1, 3] (ys' := [0]) (by simp)
  have e0 : ∀ (a4 a5 a6 : AV) (z : Int), keepA [1, 3] 0 ((((((tsY p 0).set 3 .any).set 4 a4).set 5 a5).set 6 a6).set 3 (ai z)) = tsY p z := by
    intro a4 a5 a6 z
    simp only [tsY, List.set]
    rfl
  rw [e0] at hS
  refine wpIn_block (wpIn_mono (wpIn_loop_rounds _ (back_loop hb' hps H nn a w1 hle hS)) fun x a' w' hx => ?_)
  obtain ⟨rfl, ts, h0, hd, _, J', M', st, _⟩ := hx
  refine ⟨hd, .tuple #[], ?_, ⟨_, rfl⟩, J', M', st⟩
  simp [results, hres]
end
end Go.Proofs.Ytknphnmhjmejaaa
/-  The abstract machine's regions in any order; its control; its functions. No conditions. -/
namespace Go.Proofs.Ytknphnmhjmejaaa
set_option linter.unusedVariables false
set_option linter.unusedSimpArgs false
section
variable (P : Program) (Γ : FuncId → Option Callee) {R : Type}
theorem aop_reads (o : Oper) (hc : calmO Γ o.op = 1) {ts : List AV} {h h' : Hp} {v : AV} (hk : aopO P Γ o ⟨ts, h⟩ = some (.val v h')) : h' = h := by
  unfold aopO aop at hk
  simp only at hk
  split at hk <;> (try (rename_i e; rw [e] at hc; cases hc; done))
  · -- a load
    split at hk
    · cases hk
    · rcases bsq_inv hk with ⟨_, hk⟩ | ⟨_, hk⟩
      · cases hk
      · unfold ldg at hk; split at hk <;> cases hk; rfl
    · rcases bsq_inv hk with ⟨_, hk⟩ | ⟨_, hk⟩
      · cases hk
      · unfold ldg at hk; split at hk <;> cases hk; rfl
    · unfold ldi at hk
      obtain ⟨x, _, hk⟩ := ldv_inv hk
      obtain ⟨n, _, hk⟩ := asInt_inv hk
      cases hk; rfl
    · unfold ldb at hk
      obtain ⟨x, _, hk⟩ := ldv_inv hk
      obtain ⟨n, _, hk⟩ := asBool_inv hk
      cases hk; rfl
    · obtain ⟨x, _, hk⟩ := ldv_inv hk
      cases hk; rfl
  · -- a slice expression
    have key : ∀ (e : Nat) (x : AV) (lo hi : Option Int), slc e h x lo hi (fun v => some (Out.val v h)) = some (.val v h') → h' = h := by
      intro e x lo hi hk
      unfold slc at hk
      split at hk
      · split at hk <;> cases hk; rfl
      · split at hk <;> cases hk; rfl
      · split at hk <;> cases hk; rfl
      · cases hk
    split at hk
    · split at hk
      · exact key _ _ _ _ hk
      · obtain ⟨_, _, hk⟩ := asInt_inv hk; exact key _ _ _ _ hk
      · obtain ⟨_, _, hk⟩ := asInt_inv hk; exact key _ _ _ _ hk
      · obtain ⟨_, _, hk⟩ := asInt_inv hk; obtain ⟨_, _, hk⟩ := asInt_inv hk; exact key _ _ _ _ hk
    · cases hk
  · -- a call
    rename_i c e
    rw [e] at hc
    unfold callO at hk
    obtain ⟨cal, ags, ats⟩ := c
    simp only at hk
    split at hk
    · rename_i fo
      cases fo with
      | func g =>
        simp only [calmO] at hc
        split at hc
        · rename_i F hF
          simp only [aeval, callV, callC, hF] at hk
          unfold callP at hk
          split at hk
          · split at hk
            · split at hk
              · have := castD_inv hk; cases this; rfl
              · cases hk
            · split at hk <;> cases hk
            · cases hk
          · cases hk
        · cases hc
      | _ => simp [calmO, calm] at hc
    · cases hk
    · simp [calmO, calm] at hc
    · simp [calmO, calm] at hc
    · cases hk
  · cases hk
theorem aop_congr (o : Oper) {ts ts' : List AV} (hp : Hp) (h : ∀ x ∈ o.op.operands, aeval ts x = aeval ts' x) : aopO P Γ o ⟨ts, hp⟩ = aopO P Γ o ⟨ts', hp⟩ := by
  obtain ⟨dst, op, type, pos, after, guard⟩ := o
  unfold aopO aop
  simp only at h ⊢
  have maps : ∀ (l : List Operand), (∀ x ∈ l, aeval ts x = aeval ts' x) → l.map (aeval ts) = l.map (aeval ts') := fun l hl => List.map_congr_left hl
  cases op <;> simp only [Op.operands] at h <;> (try simp only)
  case build t ps =>
    have : (ps.toList.map fun p => aeval ts p.2) = ps.toList.map fun p => aeval ts' p.2 := List.map_congr_left fun p hm => h p.2 (by simp; exact ⟨p.1, Array.mem_toList_iff.1 hm⟩)
    split
    · congr 2
      refine List.map_congr_left fun p hm => ?_
      rw [h p.2 (by simp; exact ⟨p.1, Array.mem_toList_iff.1 hm⟩)]
    · rfl
  case buildSlice t n ps =>
    split
    · split
      · congr 2
        refine List.map_congr_left fun p hm => ?_
        rw [h p.2 (by simp; exact ⟨p.1, Array.mem_toList_iff.1 hm⟩)]
      · rfl
    · rfl
  case makeFunc fn first cap =>
    cases fn <;> simp only
    rw [maps cap.toList fun x hx => h x (by simp; exact .inr (Array.mem_toList_iff.1 hx)), maps first.toList fun x hx => h x (by simp; exact .inl (Array.mem_toList_iff.1 hx))]
  case call c =>
    obtain ⟨cal, ags, ats⟩ := c
    simp only [Call.operands] at h
    unfold callO
    simp only
    split
    · rename_i f
      rw [h f (by simp), maps ags.toList fun x hx => h x (by simp; exact .inr (Array.mem_toList_iff.1 hx))]
    · rfl
    · split
      · rename_i x t ha _
        rw [h x (by simp; exact Array.mem_toList_iff.1 (by rw [ha]; simp))]
      · rfl
    · split
      · rename_i x y t u ha _
        rw [h x (by simp; exact Array.mem_toList_iff.1 (by rw [ha]; simp)), h y (by simp; exact Array.mem_toList_iff.1 (by rw [ha]; simp))]
      · rfl
    · rfl
  case slice t x lo hi mx =>
    cases mx <;> simp only
    cases lo <;> cases hi <;> simp_all
  case typeAssert x s t ok => cases ok <;> simp_all
  all_goals (first | rfl | (simp_all; done))
end

section
variable (P : Program) (Γ : FuncId → Option Callee) (ops : Array Oper)
/-- The i-th operation, as a function of the state. -/
noncomputable def stepA (i : Nat) (σ : St) : Option St :=
  match ops[i]? with
  | none => some σ
  | some o =>
    let run : Option St := match aopO P Γ o σ with
      | some (.val v h) => some ⟨putA o.dst v σ.tmps, h⟩
      | _ => none
    match o.guard with
    | none => run
    | some (j, want) =>
      match (ops[j]?).bind (·.dst) with
      | none => none
      | some d =>
        match σ.tmps.getD d .any with
        | .rv (.bool b) => if b = want then run else some ⟨putA o.dst undefA σ.tmps, σ.heap⟩
        | .rv (.tuple []) => some ⟨putA o.dst undefA σ.tmps, σ.heap⟩
        | _ => none
variable {R : Type}
theorem aops_step (i : Nat) (is : List Nat) (σ : St) (K : Cont R) (r : R) (hne : is ≠ []) (hk : aops P Γ ops true (i :: is) σ K = some r) : ∃ σ1, stepA P Γ ops i σ = some σ1 ∧ aops P Γ ops true is σ1 K = some r := by
  have hem : is.isEmpty = false := by cases is <;> simp_all
  rw [aops_old] at hk
  unfold stepA
  split at hk
  · rename_i ho
    exact ⟨σ, by simp only [ho], hk⟩
  · rename_i o ho
    have go : aop P Γ o σ (fun v h => aops P Γ ops true is ⟨putA o.dst v σ.tmps, h⟩ K) (fun v h => bsq (drl true is.isEmpty ops.toList) none (K (.pan v) ⟨σ.tmps, h⟩)) = some r →
        ∃ σ1, (match aopO P Γ o σ with
      | some (.val v h) => some (⟨putA o.dst v σ.tmps, h⟩ : St)
      | _ => none) = some σ1 ∧ aops P Γ ops true is σ1 K = some r := by
      intro hk
      rw [aop_nat] at hk
      cases hO : aopO P Γ o σ with
      | none => rw [hO] at hk; cases hk
      | some out =>
        rw [hO] at hk
        cases out with
        | val v h => exact ⟨_, rfl, hk⟩
        | pan v h => rw [hem] at hk; cases hk
    simp only [ho]
    split at hk
    · rename_i hg
      simp only [hg]
      exact go hk
    · rename_i j want hg
      simp only [hg]
      split at hk
      · cases hk
      · rename_i d hd
        simp only [hd]
        split at hk
        · rename_i b hb
          simp only [hb]
          rcases bsp_inv hk with ⟨hbb, hk1⟩ | ⟨hbb, hk1⟩
          · have hset : σ.tmps.set d (ab true) = σ.tmps := set_same' (by rw [hb, hbb])
            rw [hset] at hk1
            rw [hbb]
            cases want
            · simp only [Bool.false_eq_true, if_false, Bool.true_eq_false] at hk1 ⊢
              exact ⟨_, rfl, hk1⟩
            · simp only [if_true] at hk1 ⊢
              exact go hk1
          · have hset : σ.tmps.set d (ab false) = σ.tmps := set_same' (by rw [hb, hbb])
            rw [hset] at hk1
            rw [hbb]
            cases want
            · simp only [Bool.false_eq_true, if_false, if_true] at hk1 ⊢
              exact go hk1
            · simp only [Bool.false_eq_true, if_false, if_true] at hk1 ⊢
              exact ⟨_, rfl, hk1⟩
        · rename_i hb
          simp only [hb]
          exact ⟨_, rfl, hk⟩
        · cases hk
/-- The last operation's panic, ahead of which all others come. -/
def PanAt (i : Nat) (σ : St) (v : AV) (h' : Hp) : Prop := ∀ rr nn B a w, Sim B σ a w → ∀ K, wpOpIn (FW rr) nn P ops (ExQ B (.pan v) ⟨σ.tmps, h'⟩) i K a w
theorem aops_last (good : Good P Γ) (i : Nat) (σ : St) (K : Cont R) (r : R) (hk : aops P Γ ops true [i] σ K = some r) :
    (∃ σ1, stepA P Γ ops i σ = some σ1 ∧ K .normal σ1 = some r) ∨ (∃ v h', PanAt P ops i σ v h' ∧ K (.pan v) ⟨σ.tmps, h'⟩ = some r ∧ depOk ops.toList = true) := by
  rw [aops_old] at hk
  unfold stepA
  split at hk
  · rename_i ho
    exact .inl ⟨σ, by simp only [ho], hk⟩
  · rename_i o ho
    have go : aop P Γ o σ (fun v h => aops P Γ ops true [] ⟨putA o.dst v σ.tmps, h⟩ K) (fun v h => bsq (drl true ([] : List Nat).isEmpty ops.toList) none (K (.pan v) ⟨σ.tmps, h⟩)) = some r → (∀ B a w, Sim B σ a w → Region.wanted o (yielded ops a.tmps) = true) →
        (∃ σ1, (match aopO P Γ o σ with
      | some (.val v h) => some (⟨putA o.dst v σ.tmps, h⟩ : St)
      | _ => none) = some σ1 ∧ K .normal σ1 = some r) ∨ (∃ v h', PanAt P ops i σ v h' ∧ K (.pan v) ⟨σ.tmps, h'⟩ = some r ∧ depOk ops.toList = true) := by
      intro hk hwant
      rw [aop_nat] at hk
      cases hO : aopO P Γ o σ with
      | none => rw [hO] at hk; cases hk
      | some out =>
        rw [hO] at hk
        cases out with
        | val v h => exact .inl ⟨_, rfl, hk⟩
        | pan v h =>
          refine .inr ⟨v, h, ?_, ?_⟩
          · intro rr nn B a w hS K2
            have hnd := aop_nodefer (R := Out) hO
            unfold aopO at hO
            rcases aop_sound (ts := σ.tmps) (h := σ.heap) good hO with ⟨v2, h2, e, H⟩ | ⟨v2, h2, e, H⟩
            · cases e
            · cases e
              unfold wpOpIn
              simp only [ho, hwant B a w hS, if_true]
              exact opPan_wpIn H hnd hS fun x a' w' hx => hx
          · replace hk : bsq (!(depOk ops.toList)) none (K (.pan v) ⟨σ.tmps, h⟩) = some r := hk
            rcases bsq_inv hk with ⟨_, hk⟩ | ⟨hd, hk⟩
            · cases hk
            · exact ⟨hk, by simpa using hd⟩
    simp only [ho]
    split at hk
    · rename_i hg
      simp only [hg]
      exact go hk fun B a w _ => by simp [Region.wanted, hg]
    · rename_i j want hg
      simp only [hg]
      split at hk
      · cases hk
      · rename_i d hd
        simp only [hd]
        split at hk
        · rename_i b hb
          simp only [hb]
          have hw : ∀ B a w, Sim B σ a w → Region.wanted o (yielded ops a.tmps) = (b == want) := by
            intro B a w hs
            obtain ⟨J, M, u, hu, hU, _⟩ := getD_val hs hb
            simp only [VR] at hU
            subst hU
            exact wanted_bool hg hd hu
          rcases bsp_inv hk with ⟨hbb, hk1⟩ | ⟨hbb, hk1⟩
          · have hset : σ.tmps.set d (ab true) = σ.tmps := set_same' (by rw [hb, hbb])
            rw [hset] at hk1
            rw [hbb]
            cases want
            · simp only [Bool.false_eq_true, if_false, Bool.true_eq_false] at hk1 ⊢
              exact .inl ⟨_, rfl, hk1⟩
            · simp only [if_true] at hk1 ⊢
              exact go hk1 fun B a w hs => by rw [hw B a w hs, hbb]; rfl
          · have hset : σ.tmps.set d (ab false) = σ.tmps := set_same' (by rw [hb, hbb])
            rw [hset] at hk1
            rw [hbb]
            cases want
            · simp only [Bool.false_eq_true, if_false, if_true] at hk1 ⊢
              exact go hk1 fun B a w hs => by rw [hw B a w hs, hbb]; rfl
            · simp only [Bool.false_eq_true, if_false, if_true] at hk1 ⊢
              exact .inl ⟨_, rfl, hk1⟩
        · rename_i hb
          simp only [hb]
          exact .inl ⟨_, rfl, hk⟩
        · cases hk
theorem getD_put {ts : List AV} {dst : Option Tmp} {v : AV} {t : Nat} (h : ∀ d, dst = some d → d ≠ t) : (putA dst v ts).getD t .any = ts.getD t .any := by
  cases dst with
  | none => rfl
  | some d =>
    simp only [putA, tset_eq, List.getD_eq_getElem?_getD, List.getElem?_set, if_neg (h d rfl)]
theorem aeval_put {ts : List AV} {dst : Option Tmp} {v : AV} {x : Operand} (h : ∀ d, dst = some d → x ≠ .tmp d) : aeval (putA dst v ts) x = aeval ts x := by
  cases x with
  | tmp t => simp only [aeval, tget_eq]; exact getD_put fun d hd e => h d hd (by rw [e])
  | _ => rfl
theorem putA_comm {ts : List AV} {x y : Option Tmp} (v u : AV) (h : ∀ d, x = some d → y ≠ some d) : putA y u (putA x v ts) = putA x v (putA y u ts) := by
  cases x with
  | none => rfl
  | some d =>
    cases y with
    | none => rfl
    | some e =>
      have hne : d ≠ e := fun he => h d rfl (he ▸ rfl)
      simp only [putA, tset_eq]
      exact List.set_comm _ _ hne
/-- What an operation does, told apart: its slot's value, its heap. -/
noncomputable def valA (o : Oper) (σ : St) : Option (AV × Hp) :=
  let run : Option (AV × Hp) := match aopO P Γ o σ with
    | some (.val v h) => some (v, h)
    | _ => none
  match o.guard with
  | none => run
  | some (j, want) =>
    match (ops[j]?).bind (·.dst) with
    | none => none
    | some d =>
      match σ.tmps.getD d .any with
      | .rv (.bool b) => if b = want then run else some (undefA, σ.heap)
      | .rv (.tuple []) => some (undefA, σ.heap)
      | _ => none
theorem stepA_val {i : Nat} {o : Oper} (ho : ops[i]? = some o) (σ : St) : stepA P Γ ops i σ = (valA P Γ ops o σ).map fun x => ⟨putA o.dst x.1 σ.tmps, x.2⟩ := by
  unfold stepA valA
  simp only [ho]
  split
  · split <;> rfl
  · split
    · rfl
    · split
      · split
        · split <;> rfl
        · rfl
      · rfl
      · rfl
theorem valA_put {o : Oper} {dst : Option Tmp} {v : AV} {ts : List AV} {h : Hp} (hl : ∀ d, dst = some d → d ∉ o.looksAt ops) : valA P Γ ops o ⟨putA dst v ts, h⟩ = valA P Γ ops o ⟨ts, h⟩ := by
  have h1 : aopO P Γ o ⟨putA dst v ts, h⟩ = aopO P Γ o ⟨ts, h⟩ := aop_congr P Γ o h fun x hx => aeval_put fun d hd e => by
    subst e
    refine hl d hd ?_
    unfold Oper.looksAt
    refine List.mem_append_left _ (List.mem_filterMap.2 ⟨_, Array.mem_toList_iff.2 hx, rfl⟩)
  unfold valA
  simp only [h1]
  split
  · rfl
  · rename_i j want hg
    split
    · rfl
    · rename_i d hd
      rw [getD_put (fun d' hd' e => hl d' hd' (by
        subst e
        unfold Oper.looksAt
        refine List.mem_append_right _ ?_
        simp [hg, hd]))]
theorem valA_free {o : Oper} (hc : calmO Γ o.op = 0) {ts : List AV} {h h' : Hp} {v : AV} (hv : valA P Γ ops o ⟨ts, h⟩ = some (v, h')) : h' = h ∧ ∀ h2, valA P Γ ops o ⟨ts, h2⟩ = some (v, h2) := by
  obtain ⟨c, hcc⟩ := aop_free P Γ o hc ts
  have run : ∀ {h h' : Hp}, (match aopO P Γ o ⟨ts, h⟩ with
    | some (.val v h) => some (v, h)
    | _ => none) = some (v, h') → h' = h ∧ ∀ h2, (match aopO P Γ o ⟨ts, h2⟩ with
    | some (.val v h) => some (v, h)
    | _ => none) = some (v, h2) := by
    intro h h' hv
    rw [hcc h] at hv
    cases c with
    | none => cases hv
    | some u =>
      simp only [Option.bind_some, Option.some.injEq, Prod.mk.injEq] at hv
      obtain ⟨rfl, rfl⟩ := hv
      exact ⟨rfl, fun h2 => by rw [hcc h2]; rfl⟩
  unfold valA at hv ⊢
  simp only at hv ⊢
  split at hv
  · exact run hv
  · split at hv
    · cases hv
    · rename_i d hd
      split at hv
      · rename_i b hb
        split at hv
        · rename_i hw
          obtain ⟨h1, h2⟩ := run hv
          exact ⟨h1, fun h3 => by simp only [hb, hw, if_true]; exact h2 h3⟩
        · rename_i hw
          simp only [Option.some.injEq, Prod.mk.injEq] at hv
          obtain ⟨rfl, rfl⟩ := hv
          exact ⟨rfl, fun h3 => by simp only [hb, hw, if_false]⟩
      · rename_i hb
        simp only [Option.some.injEq, Prod.mk.injEq] at hv
        obtain ⟨rfl, rfl⟩ := hv
        exact ⟨rfl, fun h3 => by simp only [hb]⟩
      · cases hv
theorem valA_reads {o : Oper} (hc : calmO Γ o.op = 1) {ts : List AV} {h h' : Hp} {v : AV} (hv : valA P Γ ops o ⟨ts, h⟩ = some (v, h')) : h' = h := by
  have run : (match aopO P Γ o ⟨ts, h⟩ with
    | some (.val v h) => some (v, h)
    | _ => none) = some (v, h') → h' = h := by
    intro hv
    split at hv
    · rename_i u h2 hO
      simp only [Option.some.injEq, Prod.mk.injEq] at hv
      obtain ⟨rfl, rfl⟩ := hv
      exact aop_reads P Γ o hc hO
    · cases hv
  unfold valA at hv
  simp only at hv
  split at hv
  · exact run hv
  · split at hv
    · cases hv
    · split at hv
      · split at hv
        · exact run hv
        · simp only [Option.some.injEq, Prod.mk.injEq] at hv; exact hv.2.symm
      · simp only [Option.some.injEq, Prod.mk.injEq] at hv; exact hv.2.symm
      · cases hv
/-- Two operations that do not hang on each other may be done the other way round. -/
theorem stepA_comm {i j : Nat} {oi oj : Oper} (hi : ops[i]? = some oi) (hj : ops[j]? = some oj) (hap : oi.apart ops oj = true) (hcp : calmPair (calmO Γ oi.op) (calmO Γ oj.op) = true) {σ σ1 σ2 : St}
    (h1 : stepA P Γ ops i σ = some σ1) (h2 : stepA P Γ ops j σ1 = some σ2) : ∃ σ1', stepA P Γ ops j σ = some σ1' ∧ stepA P Γ ops i σ1' = some σ2 := by
  obtain ⟨a1, a2, a3⟩ := Oper.apart_spec hap
  obtain ⟨ts, h⟩ := σ
  rw [stepA_val P Γ ops hi, Option.map_eq_some_iff] at h1
  obtain ⟨⟨vi, hpi⟩, e1, rfl⟩ := h1
  rw [stepA_val P Γ ops hj, Option.map_eq_some_iff] at h2
  obtain ⟨⟨vj, hpj⟩, e2, rfl⟩ := h2
  simp only at e2 ⊢
  rw [valA_put P Γ ops a1] at e2
  -- what j gives at the beginning
  have hcase : calmO Γ oi.op = 0 ∨ calmO Γ oj.op = 0 ∨ (calmO Γ oi.op = 1 ∧ calmO Γ oj.op = 1) := by
    unfold calmPair at hcp
    simp only [Bool.or_eq_true, beq_iff_eq, Bool.and_eq_true] at hcp
    rcases hcp with (hcp | hcp) | hcp
    · exact .inl hcp
    · exact .inr (.inl hcp)
    · exact .inr (.inr hcp)
  have key : ∃ hj', valA P Γ ops oj ⟨ts, h⟩ = some (vj, hj') ∧ valA P Γ ops oi ⟨ts, hj'⟩ = some (vi, hpj) := by
    rcases hcase with hc | hc | ⟨hc1, hc2⟩
    · obtain ⟨rfl, hall⟩ := valA_free P Γ ops hc e1
      exact ⟨hpj, e2, hall hpj⟩
    · obtain ⟨rfl, hall⟩ := valA_free P Γ ops hc e2
      exact ⟨h, hall h, e1⟩
    · have r1 := valA_reads P Γ ops hc1 e1
      subst r1
      have r2 := valA_reads P Γ ops hc2 e2
      subst r2
      exact ⟨_, e2, e1⟩
  obtain ⟨hj', k1, k2⟩ := key
  refine ⟨⟨putA oj.dst vj ts, hj'⟩, by rw [stepA_val P Γ ops hj, k1]; rfl, ?_⟩
  rw [stepA_val P Γ ops hi, valA_put P Γ ops a3, k2]
  simp only [Option.map_some, Option.some.injEq, St.mk.injEq, and_true]
  exact (putA_comm vi vj a2).symm
/-- In whatever order the edges allow, the same end. -/
def anyA (σf : St) : Nat → Array Bool → St → Prop
  | 0, listed, σ => Region.ready .any ops listed = [] ∧ σ = σf
  | fuel + 1, listed, σ => (Region.ready .any ops listed = [] → σ = σf) ∧ ∀ i ∈ Region.ready .any ops listed, ∃ σ1, stepA P Γ ops i σ = some σ1 ∧ anyA σf fuel (listed.setIfInBounds i true) σ1
theorem anyA_first {σf : St} {i : Nat} {oi : Oper} (hi : ops[i]? = some oi) : ∀ (fuel : Nat) (listed : Array Bool) (σ σ1 : St),
    (∀ j oj, ops[j]? = some oj → j ≠ i → listed.getD j true = false → (∀ e ∈ oj.after, Region.binds .any e = true → e.on ≠ i) → oi.apart ops oj = true ∧ calmPair (calmO Γ oi.op) (calmO Γ oj.op) = true) →
    i ∈ Region.ready .any ops listed → stepA P Γ ops i σ = some σ1 → anyA P Γ ops σf fuel (listed.setIfInBounds i true) σ1 → anyA P Γ ops σf (fuel + 1) listed σ := by
  intro fuel
  induction fuel with
  | zero =>
    intro listed σ σ1 _ hr hy H
    refine ⟨fun h => (by rw [h] at hr; cases hr), fun j hj => ?_⟩
    by_cases hji : j = i
    · subst hji; exact ⟨σ1, hy, H⟩
    · have := ready_mono hj hji
      rw [H.1] at this
      cases this
  | succ fuel ih =>
    intro listed σ σ1 hfree hr hy H
    refine ⟨fun h => (by rw [h] at hr; cases hr), fun j hj => ?_⟩
    by_cases hji : j = i
    · subst hji; exact ⟨σ1, hy, H⟩
    · obtain ⟨σ2, hs2, H2⟩ := H.2 j (ready_mono hj hji)
      obtain ⟨hjun, oj, hoj, hall⟩ := mem_ready.1 hj
      have hnot : ∀ e ∈ oj.after, Region.binds .any e = true → e.on ≠ i := fun e he hb heq => by
        have h1 := hall e he hb
        have h0 := (mem_ready.1 hr).1
        rw [heq] at h1
        rcases Nat.lt_or_ge i listed.size with h' | h'
        · simp [h'] at h0 h1; rw [h0] at h1; cases h1
        · simp [Array.getElem?_eq_none h'] at h1
      obtain ⟨hap, hcp⟩ := hfree j oj hoj hji hjun hnot
      obtain ⟨σ1', k1, k2⟩ := stepA_comm P Γ ops hi hoj hap hcp hy hs2
      refine ⟨σ1', k1, ih (listed.setIfInBounds j true) σ1' σ2 ?_ (ready_mono hr (Ne.symm hji)) k2 ?_⟩
      · intro k ok hk hki hun hno
        refine hfree k ok hk hki ?_ hno
        by_cases hjk : j = k
        · subst hjk; exact hjun
        · rw [getD_set_ne true hjk] at hun; exact hun
      · rw [Array.setIfInBounds_comm _ _ hji]; exact H2
theorem calmAt_spec {i : Nat} {oi : Oper} {listed : Array Bool} (hi : ops[i]? = some oi) (h : calmAt Γ ops listed i = true) (j : Nat) (oj : Oper)
    (hj : ops[j]? = some oj) (hne : j ≠ i) (hun : listed.getD j true = false) (hno : ∀ e ∈ oj.after, Region.binds .any e = true → e.on ≠ i) : calmPair (calmO Γ oi.op) (calmO Γ oj.op) = true := by
  simp only [calmAt, hi, List.all_eq_true, List.mem_range] at h
  have h1 := h j (Array.getElem?_eq_some_iff.1 hj).1
  simp only [hj, Bool.or_eq_true, beq_iff_eq, hne, false_or, hun, Bool.false_eq_true] at h1
  rcases h1 with h1 | h1
  · rw [Array.any_eq_true] at h1
    obtain ⟨k, hk, h1⟩ := h1
    simp only [Bool.and_eq_true, beq_iff_eq] at h1
    exact absurd h1.2 (hno _ (Array.getElem_mem hk) h1.1)
  · exact h1
/-- What is listed has what it waits for listed. -/
def Closed (listed : Array Bool) : Prop := ∀ j oj, ops[j]? = some oj → listed.getD j true = true → ∀ e ∈ oj.after, Region.binds .any e = true → listed.getD e.on false = true
theorem getD_size {l : Array Bool} {n i : Nat} (hs : l.size = n) (hi : i < n) (b : Bool) : l.getD i b = l[i]'(by omega) := by simp [Array.getD, hs, hi]
/-- The last one comes last. -/
theorem last_ready {listed : Array Bool} (hs : listed.size = ops.size) (hc : Closed ops listed) (hd : depOk ops.toList = true) (hz : ops.size - 1 ∈ Region.ready .any ops listed) : ∀ (m i : Nat), i + m + 1 = ops.size → i ≠ ops.size - 1 → listed.getD i true = true := by
  intro m
  induction m using Nat.strongRecOn with
  | _ m ih =>
    intro i hi hne
    have hlt : i < ops.size - 1 := by omega
    apply Classical.byContradiction
    intro hun
    simp only [Bool.not_eq_true] at hun
    simp only [depOk, List.all_eq_true, List.mem_range, Array.length_toList] at hd
    have h1 := hd i hlt
    rw [List.any_eq_true] at h1
    obtain ⟨j, hj, h2⟩ := h1
    rw [List.mem_range] at hj
    simp only [Bool.and_eq_true, Array.getElem?_toList] at h2
    obtain ⟨hij, h3⟩ := h2
    have hij : i < j := by simpa using hij
    split at h3
    case h_2 => cases h3
    rename_i oj hoj
    rw [Array.any_eq_true] at h3
    obtain ⟨q, hq, h4⟩ := h3
    simp only [Bool.and_eq_true, beq_iff_eq] at h4
    have hf : listed.getD i false = false := by
      rw [getD_size hs (by omega)] at hun ⊢; exact hun
    by_cases hjz : j = ops.size - 1
    · subst hjz
      obtain ⟨_, oz, hoz, hall⟩ := mem_ready.1 hz
      rw [hoj] at hoz
      cases hoz
      have := hall _ (Array.getElem_mem hq) h4.1
      rw [h4.2, hf] at this
      cases this
    · have hjl := ih (ops.size - 1 - j) (by omega) j (by omega) hjz
      have := hc j oj hoj hjl _ (Array.getElem_mem hq) h4.1
      rw [h4.2, hf] at this
      cases this
theorem Closed.step {listed : Array Bool} (hs : listed.size = ops.size) (hc : Closed ops listed) {i : Nat} (hi : i ∈ Region.ready .any ops listed) : Closed ops (listed.setIfInBounds i true) := by
  obtain ⟨hun, oi, hoi, hall⟩ := mem_ready.1 hi
  have hil : i < ops.size := (Array.getElem?_eq_some_iff.1 hoi).1
  have up : ∀ q, listed.getD q false = true → (listed.setIfInBounds i true).getD q false = true := by
    intro q hq
    by_cases e : i = q
    · subst e
      have : i < (listed.setIfInBounds i true).size := by simp; omega
      simp [Array.getD, hs, hil]
    · rwa [getD_set_ne false e]
  intro j oj hoj hj e he hb
  by_cases hji : i = j
  · subst hji
    rw [hoi] at hoj
    cases hoj
    exact up _ (hall e he hb)
  · rw [getD_set_ne true hji] at hj
    exact up _ (hc j oj hoj hj e he hb)
/-- In whatever order the edges allow, the last one last, and there it panics. -/
def anyB (σf : St) : Nat → Array Bool → St → Prop
  | 0, listed, σ => False
  | fuel + 1, listed, σ => Region.ready .any ops listed ≠ [] ∧ ∀ i ∈ Region.ready .any ops listed, (i = ops.size - 1 ∧ σ = σf) ∨ (i ≠ ops.size - 1 ∧ ∃ σ1, stepA P Γ ops i σ = some σ1 ∧ anyB σf fuel (listed.setIfInBounds i true) σ1)
theorem anyB_first (hd : depOk ops.toList = true) {σf : St} {i : Nat} {oi : Oper} (hi : ops[i]? = some oi) (hiz : i ≠ ops.size - 1) : ∀ (fuel : Nat) (listed : Array Bool) (σ σ1 : St), listed.size = ops.size → Closed ops listed →
    (∀ j oj, ops[j]? = some oj → j ≠ i → listed.getD j true = false → (∀ e ∈ oj.after, Region.binds .any e = true → e.on ≠ i) → oi.apart ops oj = true ∧ calmPair (calmO Γ oi.op) (calmO Γ oj.op) = true) →
    i ∈ Region.ready .any ops listed → stepA P Γ ops i σ = some σ1 → anyB P Γ ops σf fuel (listed.setIfInBounds i true) σ1 → anyB P Γ ops σf (fuel + 1) listed σ := by
  intro fuel
  induction fuel with
  | zero =>
    intro listed σ σ1 _ _ _ hr hy H
    exact absurd H (by simp [anyB])
  | succ fuel ih =>
    intro listed σ σ1 hsz hcl hfree hr hy H
    refine ⟨fun h => (by rw [h] at hr; cases hr), fun j hj => ?_⟩
    by_cases hji : j = i
    · subst hji; exact .inr ⟨hiz, σ1, hy, H⟩
    · obtain ⟨hjun, oj, hoj, hall⟩ := mem_ready.1 hj
      have hjz : j ≠ ops.size - 1 := by
        rintro rfl
        have h0 := (mem_ready.1 hr).1
        have hil : i < ops.size := (Array.getElem?_eq_some_iff.1 hi).1
        have := last_ready ops hsz hcl hd hj (ops.size - 1 - i) i (by omega) hiz
        rw [this] at h0
        cases h0
      rcases H.2 j (ready_mono hj hji) with ⟨h, _⟩ | ⟨_, σ2, hs2, H2⟩
      · exact absurd h hjz
      have hnot : ∀ e ∈ oj.after, Region.binds .any e = true → e.on ≠ i := fun e he hb heq => by
        have h1 := hall e he hb
        have h0 := (mem_ready.1 hr).1
        rw [heq] at h1
        rcases Nat.lt_or_ge i listed.size with h' | h'
        · simp [h'] at h0 h1; rw [h0] at h1; cases h1
        · simp [Array.getElem?_eq_none h'] at h1
      obtain ⟨hap, hcp⟩ := hfree j oj hoj hji hjun hnot
      obtain ⟨σ1', k1, k2⟩ := stepA_comm P Γ ops hi hoj hap hcp hy hs2
      refine .inr ⟨hjz, σ1', k1, ih (listed.setIfInBounds j true) σ1' σ2 (by simpa using hsz) (hcl.step ops hsz hj) ?_ (ready_mono hr (Ne.symm hji)) k2 ?_⟩
      · intro k ok hk hki hun hno
        refine hfree k ok hk hki ?_ hno
        by_cases hjk : j = k
        · subst hjk; exact hjun
        · rw [getD_set_ne true hjk] at hun; exact hun
      · rw [Array.setIfInBounds_comm _ _ hji]; exact H2
theorem anyA_lex (good : Good P Γ) {K : Cont R} {r : R} : ∀ (n k : Nat) (listed : Array Bool) (σ : St), k + n = ops.size → listed.size = ops.size → Closed ops listed → (∀ j, j < k → listed.getD j true = true) → Region.lexFrom .any ops n k listed = true → calmFrom Γ ops n k listed = true →
    aops P Γ ops true ((List.range' k n)) σ K = some r → (∃ σf, K .normal σf = some r ∧ anyA P Γ ops σf n listed σ) ∨ (∃ σf v h', K (.pan v) ⟨σf.tmps, h'⟩ = some r ∧ (PanAt P ops (ops.size - 1) σf v h' ∧ depOk ops.toList = true) ∧ anyB P Γ ops σf n listed σ)
  | 0, k, listed, σ, _, _, _, _, hB, _, hk => by
    simp only [List.range'_zero, aops] at hk
    exact .inl ⟨σ, hk, by simpa [Region.lexFrom] using hB, rfl⟩
  | 1, k, listed, σ, hkn, hsz, hcl, hbelow, hB, hC, hk => by
    have hlt : k < ops.size := by omega
    have h0 : ops[k]? = some ops[k] := Array.getElem?_eq_getElem hlt
    simp only [Region.lexFrom, Bool.and_eq_true] at hB
    obtain ⟨⟨hr, hf⟩, hB'⟩ := hB
    simp only [calmFrom, Bool.and_eq_true] at hC
    rcases aops_last P Γ ops good k σ K r hk with ⟨σ1, hs, hK⟩ | ⟨v, h', hP, hK, hd⟩
    · refine .inl ⟨σ1, hK, anyA_first P Γ ops h0 0 listed σ σ1 (fun j oj hj hne hun hno => ⟨Region.free_spec h0 hf j oj hj hne hun hno, calmAt_spec Γ ops h0 hC.1 j oj hj hne hun hno⟩) (by simpa using hr) hs ⟨by simpa [Region.lexFrom] using hB', rfl⟩⟩
    · have hkz : k = ops.size - 1 := by omega
      subst hkz
      have hr' : ops.size - 1 ∈ Region.ready .any ops listed := by simpa using hr
      refine .inr ⟨σ, v, h', hK, ⟨hP, hd⟩, ⟨fun h => (by rw [h] at hr'; cases hr'), fun j hj => ?_⟩⟩
      obtain ⟨hjun, oj, hoj, hall⟩ := mem_ready.1 hj
      have hjl : j < ops.size := (Array.getElem?_eq_some_iff.1 hoj).1
      rcases Nat.lt_or_ge j (ops.size - 1) with h | h
      · rw [hbelow j h] at hjun; cases hjun
      · exact .inl ⟨by omega, rfl⟩
  | n + 2, k, listed, σ, hkn, hsz, hcl, hbelow, hB, hC, hk => by
    have hlt : k < ops.size := by omega
    have h0 : ops[k]? = some ops[k] := Array.getElem?_eq_getElem hlt
    rw [Region.lexFrom] at hB
    simp only [Bool.and_eq_true] at hB
    obtain ⟨⟨hr, hf⟩, hB'⟩ := hB
    rw [calmFrom] at hC
    simp only [Bool.and_eq_true] at hC
    rw [List.range'_succ] at hk
    have hr' : k ∈ Region.ready .any ops listed := by simpa using hr
    obtain ⟨σ1, hs, hk'⟩ := aops_step P Γ ops k _ σ K r (by simp [List.range'_succ]) hk
    have hb2 : ∀ j, j < k + 1 → (listed.setIfInBounds k true).getD j true = true := by
      intro j hj
      by_cases e : k = j
      · subst e
        simp [Array.getD, hsz, hlt]
      · rw [getD_set_ne true e]; exact hbelow j (by omega)
    rcases anyA_lex good (n + 1) (k + 1) _ σ1 (by omega) (by simpa using hsz) (hcl.step ops hsz hr') hb2 hB' hC.2 hk' with ⟨σf, hK, hA⟩ | ⟨σf, v, h', hK, hP, hA⟩
    · exact .inl ⟨σf, hK, anyA_first P Γ ops h0 (n + 1) listed σ σ1 (fun j oj hj hne hun hno => ⟨Region.free_spec h0 hf j oj hj hne hun hno, calmAt_spec Γ ops h0 hC.1 j oj hj hne hun hno⟩) hr' hs hA⟩
    · exact .inr ⟨σf, v, h', hK, hP, anyB_first P Γ ops hP.2 h0 (by omega) (n + 1) listed σ σ1 hsz hcl (fun j oj hj hne hun hno => ⟨Region.free_spec h0 hf j oj hj hne hun hno, calmAt_spec Γ ops h0 hC.1 j oj hj hne hun hno⟩) hr' hs hA⟩
variable {P Γ ops}
theorem stepA_sound (good : Good P Γ) {i : Nat} {σ σ1 : St} (hs : stepA P Γ ops i σ = some σ1) {B : Bs} {a : Act} {w : World} (hS : Sim B σ a w) {K : Act → World → Prop} {Q : Exit → Act → World → Prop}
    {rr : Option Nat} {nn : Nat} (hK : ∀ a' w', Sim B σ1 a' w' → K a' w') : wpOpIn (FW rr) nn P ops Q i K a w := by
  unfold wpOpIn
  unfold stepA at hs
  split at hs
  · rename_i ho
    simp only [ho]
    cases hs
    exact hK a w hS
  · rename_i o ho
    simp only [ho]
    have go : Region.wanted o (yielded ops a.tmps) = true → (match aopO P Γ o σ with
      | some (.val v h) => some (⟨putA o.dst v σ.tmps, h⟩ : St)
      | _ => none) = some σ1 → if Region.wanted o (yielded ops a.tmps) then o.wpIn (FW rr) nn P a w K Q else (∀ f, o.about P w a.eval = some f → (FW rr).fn f) ∧ K (a.put o.dst undef) w := by
      intro hw hm
      simp only [hw, if_true]
      split at hm
      · rename_i v h' hO
        cases hm
        have hnd := aop_nodefer (R := Out) hO
        unfold aopO at hO
        rcases aop_sound (ts := σ.tmps) (h := σ.heap) good hO with ⟨v2, h2, e, H⟩ | ⟨v2, h2, e, H⟩
        · cases e
          exact opRes_wpIn H hnd hS hK
        · cases e
      · cases hm
    have skip : Region.wanted o (yielded ops a.tmps) = false → some (⟨putA o.dst undefA σ.tmps, σ.heap⟩ : St) = some σ1 → if Region.wanted o (yielded ops a.tmps) then o.wpIn (FW rr) nn P a w K Q else (∀ f, o.about P w a.eval = some f → (FW rr).fn f) ∧ K (a.put o.dst undef) w := by
      intro hw hm
      cases hm
      simp only [hw, Bool.false_eq_true, if_false]
      exact ⟨fun _ _ => trivial, hK _ _ (undef_sim hS o.dst)⟩
    simp only at hs
    split at hs
    · rename_i hg
      exact go (by simp [Region.wanted, hg]) hs
    · rename_i j want hg
      split at hs
      · cases hs
      · rename_i d hd
        split at hs
        · rename_i b hb
          obtain ⟨J, M, u, hu, hU, _⟩ := getD_val hS hb
          simp only [VR] at hU
          subst hU
          have hw := wanted_bool hg hd hu
          split at hs
          · rename_i e; subst e; exact go (by rw [hw]; simp) hs
          · rename_i e; exact skip (by rw [hw]; simpa using e) hs
        · rename_i hb
          obtain ⟨J, M, u, hu, hU, _⟩ := getD_val hS hb
          simp only [VR] at hU
          obtain ⟨vs, rfl, hsz, _⟩ := hU
          have : vs = #[] := Array.eq_empty_of_size_eq_zero (by simpa using hsz)
          subst this
          exact skip (wanted_undef hg hd hu) hs
        · cases hs
theorem anyA_sound (good : Good P Γ) {σf : St} {B : Bs} {rr : Option Nat} {nn : Nat} : ∀ (fuel : Nat) (listed : Array Bool) (σ : St) (a : Act) (w : World), anyA P Γ ops σf fuel listed σ → Sim B σ a w → wpAnyIn (FW rr) nn P .any ops (ExQ B .normal σf) fuel listed a w
  | 0, listed, σ, a, w, h, hS => ⟨h.1, rfl, h.2 ▸ hS⟩
  | fuel + 1, listed, σ, a, w, h, hS => ⟨fun h0 => ⟨rfl, h.1 h0 ▸ hS⟩, fun i hi => by
    obtain ⟨σ1, hs, hA⟩ := h.2 i hi
    exact stepA_sound good hs hS fun a' w' hS' => anyA_sound good fuel _ σ1 a' w' hA hS'⟩
theorem anyB_sound (good : Good P Γ) {σf : St} {v : AV} {h' : Hp} (hP : PanAt P ops (ops.size - 1) σf v h') {B : Bs} {rr : Option Nat} {nn : Nat} : ∀ (fuel : Nat) (listed : Array Bool) (σ : St) (a : Act) (w : World), anyB P Γ ops σf fuel listed σ → Sim B σ a w → wpAnyIn (FW rr) nn P .any ops (ExQ B (.pan v) ⟨σf.tmps, h'⟩) fuel listed a w
  | 0, listed, σ, a, w, h, hS => h.elim
  | fuel + 1, listed, σ, a, w, h, hS => ⟨fun h0 => absurd h0 h.1, fun i hi => by
    rcases h.2 i hi with ⟨rfl, rfl⟩ | ⟨_, σ1, hs, hA⟩
    · exact hP rr nn B a w hS _
    · exact stepA_sound good hs hS fun a' w' hS' => anyB_sound good hP fuel _ σ1 a' w' hA hS'⟩
end
end Go.Proofs.Ytknphnmhjmejaaa
