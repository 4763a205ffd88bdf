/- Joined texts: AmSc. No conditions but those of each. -/
import Derived.Test.YtknphnmhjmejaaaJ1
/-  The abstract machine's operations against the model's, further. No conditions. -/
namespace Go.Proofs.Ytknphnmhjmejaaa
set_option linter.unusedVariables false
section ops
variable {P : Program} {Γ : FuncId → Option Callee} {R : Type} {o : Oper} {ts : List AV} {h : Hp} {K Kp : AV → Hp → Option R} {r : R}

/-- A nil of its kind: what '==' says of it. -/
theorem equal_nil {t : TypeId} {x : AV} {J M} {v y : Value} {c : Bool} {n : Nat} (hn : nilKind (P.underlying t) = n) (hx : nilLike n x = some c) (hV : V J M x v)
    (hy : (n = 1 ∧ y = .pointer none) ∨ (n = 2 ∧ y = .slice none 0 0) ∨ (n = 3 ∧ y = .nilFunc) ∨ (n = 4 ∧ y = .nilIface) ∨ (n = 5 ∧ y = .map none)) (w : World) :
    (Op.equal t v y).run P w = .ok c w := by
  have hd : ∃ d, P.underlying t = some d := by
    cases hu : P.underlying t with
    | none => rw [hu] at hn; simp [nilKind] at hn; subst hn; simp at hy
    | some d => exact ⟨d, rfl⟩
  obtain ⟨d, hd⟩ := hd
  have hU := underlying_run hd w
  rw [hd] at hn
  unfold Op.equal
  rw [show Op.maxDepth = 9999 + 1 from rfl]
  unfold Op.equalIn
  simp only [Sem.run_bind, hU, Result.andThen_ok]
  unfold nilLike at hx
  split at hx <;> simp only [Option.some.injEq, reduceCtorEq] at hx <;> subst hx <;> simp only [V, VR] at hV <;> rcases hy with ⟨e, rfl⟩ | ⟨e, rfl⟩ | ⟨e, rfl⟩ | ⟨e, rfl⟩ | ⟨e, rfl⟩ <;>
    first
      | (exfalso; omega)
      | (cases d <;> simp only [nilKind] at hn <;> (try omega) <;> (first
          | (subst hV; simp; done)
          | (obtain ⟨_, _, rfl⟩ := hV; simp; done)
          | (obtain ⟨_, rfl, _⟩ := hV; simp; done)
          | (obtain ⟨_, _, rfl, _⟩ := hV; simp; done)
          | (obtain ⟨_, _, _, _, rfl, _⟩ := hV; simp; done)))
theorem nilConst_val {y : Operand} {a : Act} {n : Nat} (hn : nilConst y = n) (h0 : n ≠ 0) :
    (n = 1 ∧ a.eval y = .pointer none) ∨ (n = 2 ∧ a.eval y = .slice none 0 0) ∨ (n = 3 ∧ a.eval y = .nilFunc) ∨ (n = 4 ∧ a.eval y = .nilIface) ∨ (n = 5 ∧ a.eval y = .map none) := by
  unfold nilConst at hn
  split at hn <;> subst hn <;> simp_all [Act.eval]
theorem eqGuard_nil (op : BinOp) (t : TypeId) (x : Operand) (yv xv : Value) (w : World) (hy : yv = .pointer none ∨ yv = .slice none 0 0 ∨ yv = .nilFunc ∨ yv = .nilIface ∨ yv = .map none) :
    (eqGuard op t x (.const yv) xv yv).run P w = .ok () w := by
  have h : (eqGuard .eql t x (.const yv) xv yv).run P w = .ok () w := by
    rcases hy with rfl | rfl | rfl | rfl | rfl <;> cases xv <;> simp [eqGuard]
  have h' : (eqGuard .neq t x (.const yv) xv yv).run P w = .ok () w := by
    rcases hy with rfl | rfl | rfl | rfl | rfl <;> cases xv <;> simp [eqGuard]
  cases op <;> first | exact h | exact h' | simp [eqGuard]
theorem snd_nilEq {op : BinOp} {neg : Bool} {t : TypeId} {x y : Operand} {t2 : TypeId} {K' : Bool → Option R} (ho : o.op = .binOp op t x y t2) (hop : op = if neg then .neq else .eql)
    (hy : nilConst y = nilKind (P.underlying t)) (h0 : nilConst y ≠ 0) (hk : nilEq neg (nilKind (P.underlying t)) (aeval ts x) K' = some r) : ∃ c, K' c = some r ∧ OpRes P o ts h (ab c) h := by
  unfold nilEq at hk
  split at hk
  case h_2 => cases hk
  rename_i c hc
  refine ⟨_, hk, OpRes.still fun J M w a hr hs hvs => ⟨.bool (if neg then !c else c), ?_, V_bool' _⟩⟩
  have hX := eval_rel hs hvs x
  have hval := nilConst_val (a := a) hy (by rw [← hy]; exact h0)
  have heq := equal_nil (P := P) rfl hc hX hval w
  have hyc : ∃ v, y = .const v := by
    cases y with
    | const v => exact ⟨v, rfl⟩
    | _ => simp [nilConst] at h0
  obtain ⟨yv, rfl⟩ := hyc
  have hyv : yv = .pointer none ∨ yv = .slice none 0 0 ∨ yv = .nilFunc ∨ yv = .nilIface ∨ yv = .map none := by
    rcases hval with ⟨_, e⟩ | ⟨_, e⟩ | ⟨_, e⟩ | ⟨_, e⟩ | ⟨_, e⟩
    · exact .inl e
    · exact .inr (.inl e)
    · exact .inr (.inr (.inl e))
    · exact .inr (.inr (.inr (.inl e)))
    · exact .inr (.inr (.inr (.inr e)))
  have hg : ∀ op', (eqGuard op' t x (.const yv) (a.eval x) (a.eval (.const yv))).run P w = .ok () w := fun op' => eqGuard_nil op' t x yv (a.eval x) w hyv
  have hbin : ∀ w, (Op.equal t (a.eval x) (a.eval (.const yv))).run P w = .ok c w → (Go.binOp op t (a.eval x) (a.eval (.const yv))).run P w = .ok (.bool (if neg then !c else c)) w := by
    intro w he
    subst hop
    have hne : (∀ k n, a.eval (.const yv) ≠ .int k n) ∧ (∀ k b, a.eval (.const yv) ≠ .float k b) ∧ (∀ k b c, a.eval (.const yv) ≠ .complex k b c) ∧ ∀ s, a.eval (.const yv) ≠ .string s := by
      rcases hval with ⟨_, e⟩ | ⟨_, e⟩ | ⟨_, e⟩ | ⟨_, e⟩ | ⟨_, e⟩ <;> rw [e] <;> simp
    generalize a.eval (.const yv) = yy at *
    generalize a.eval x = xx at *
    cases neg
    · unfold Go.binOp
      simp only [Bool.false_eq_true, if_false]
      split <;> (first | (simp_all; done) | (simp [he]; done))
    · unfold Go.binOp
      simp only [if_true]
      split <;> (first | (simp_all; done) | (simp [he]; done))
  simp only [execOp, ho, Sem.run_bind, hg, Result.andThen_ok, hbin w heq, Sem.run_pure]
theorem wrap_small {n : Int} (h0 : 0 ≤ n) (h1 : n ≤ 140737488355328) : IntKind.i64.wrap n = n := by
  unfold IntKind.wrap IntKind.signed IntKind.bits
  have : n % 2 ^ 64 = n := Int.emod_eq_of_lt h0 (by omega)
  simp only [this]
  rw [if_neg]
  simp
  omega
theorem snd_unNot {x : Operand} {t : TypeId} {b : Bool} (ho : o.op = .unOp .not t x) (hx : aeval ts x = .rv (.bool b)) : OpRes P o ts h (ab (!b)) h := by
  refine OpRes.still fun J M w a hr hs hvs => ⟨.bool (!b), ?_, V_bool' _⟩
  have h1 := eval_rel hs hvs x
  rw [hx] at h1
  simp [execOp, ho, V_bool h1, Op.unary]
theorem snd_unK {op : UnOp} {x : Operand} {t : TypeId} {K' : AV → Option R} (ho : o.op = .unOp op t x) (hk : unK P op (aeval ts x) K' = some r) : ∃ v, K' v = some r ∧ OpRes P o ts h v h := by
  have gen : ∀ (_ : ¬ op = .not), (match toVal (aeval ts x) with
      | some u => match purely P (Op.unary op u) with
        | some z => K' (ofVal z)
        | none => none
      | none => none) = some r → ∃ v, K' v = some r ∧ OpRes P o ts h v h := by
    intro _ hk
    split at hk
    case h_2 => cases hk
    rename_i u hu
    split at hk
    case h_2 => cases hk
    rename_i z hz
    refine ⟨_, hk, OpRes.still fun J M w a hr hs hvs => ⟨z, ?_, V_ofVal z⟩⟩
    rw [← V_toVal hu (eval_rel hs hvs x)] at hz
    simp [execOp, ho, purely_run _ _ w hz]
  unfold unK at hk
  split at hk
  · obtain ⟨b, hb, hk⟩ := asBool_inv hk
    exact ⟨_, hk, snd_unNot ho hb⟩
  · exact gen (by simp_all) hk
theorem snd_cvK {s d : TypeId} {x : Operand} {K' : AV → Option R} (ho : o.op = .convert s d x) (hk : cvK P s d (aeval ts x) K' = some r) : ∃ v, K' v = some r ∧ OpRes P o ts h v h := by
  unfold cvK at hk
  split at hk
  case h_2 => cases hk
  rename_i k k' hs hd
  obtain ⟨n, hx, hk⟩ := asInt_inv hk
  refine ⟨_, hk, OpRes.still fun J M w a hr hsz hvs => ⟨.int k' (wri k' n), ?_, V_int' _ _⟩⟩
  have h1 := eval_rel hsz hvs x
  rw [hx] at h1
  simp [execOp, ho, V_int h1, convert, underlying_run hs, underlying_run hd, Conv.intToInt, wri]
theorem snd_makeInterface {t : TypeId} {x : Operand} {d : TypeDesc} (ho : o.op = .makeInterface t x) (hd : P.underlying t = some d) (hn : ∀ ms, d ≠ .interface ms) : OpRes P o ts h (mkI t (aeval ts x)) h := by
  refine OpRes.still fun J M w a hr hs hvs => ⟨.iface t (a.eval x), ?_, ?_⟩
  · simp only [execOp, ho, Instr.makeInterface, Sem.run_bind, underlying_run hd, Result.andThen_ok]
    cases d <;> simp_all
  · have h1 := eval_rel hs hvs x
    unfold mkI
    split
    · rename_i e; rw [e] at h1; simp only [V, VR] at h1 ⊢; exact ⟨_, rfl, h1⟩
    · simp only [V]; exact ⟨_, rfl, h1⟩
theorem snd_makeFunc {f : FuncId} {first cap : Array Operand} (ho : o.op = .makeFunc (.func f) first cap) : OpRes P o ts h (.func f (first.toList.map (aeval ts)) (cap.toList.map (aeval ts))) h := by
  refine OpRes.still fun J M w a hr hs hvs => ⟨.func (.func f) (first.map a.eval) (cap.map a.eval), ?_, ?_⟩
  · simp [execOp, ho, Instr.makeFunc]
  · simp only [V]
    refine ⟨_, _, rfl, ⟨by simp, ?_⟩, by simp, ?_⟩
    · have := Vs_map hs hvs first.toList
      refine Vs_mono (JLe.refl J) (MLe.refl M) _ _ _ (fun i v hv => ?_) this
      simpa using hv
    · have := Vs_map hs hvs cap.toList
      refine Vs_mono (JLe.refl J) (MLe.refl M) _ _ _ (fun i v hv => ?_) this
      simpa using hv
theorem snd_fieldAddr {t : TypeId} {x : Operand} {i off : Nat} {ft : TypeId} {K' : AV → Option R} (ho : o.op = .fieldAddr t x i) (hf : fieldOff P t i = some (off, ft)) (h0 : P.cellsOf ft ≠ 0) (hk : pad (aeval ts x) off K' = some r) :
    ∃ v, K' v = some r ∧ OpRes P o ts h v h := by
  unfold fieldOff at hf
  split at hf
  case h_2 => cases hf
  rename_i fs hd
  split at hf
  case h_2 => cases hf
  rename_i f hfi
  simp only [Option.some.injEq, Prod.mk.injEq] at hf
  obtain ⟨rfl, rfl⟩ := hf
  have hi : ∃ inf, P.info? f.type = some inf := by
    unfold Program.cellsOf at h0
    cases h : P.info? f.type with
    | none => simp [h] at h0
    | some inf => exact ⟨inf, rfl⟩
  obtain ⟨inf, hi⟩ := hi
  rw [cellsOf_eq hi] at h0
  have run : ∀ (a : Act) (w : World) (ad : Addr), a.eval x = .pointer (some ad) → (execOp a.eval o).run P w = .ok (.value (.pointer (some (ad.add f.offset)))) w := by
    intro a w ad hu
    simp [execOp, ho, Instr.fieldAt, underlying_run hd, hfi, hu, Instr.sureAddr, fieldPlace, sizeOf_run hi, h0]
  unfold pad at hk
  split at hk
  · rename_i e
    refine ⟨_, hk, OpRes.still fun J M w a hr hs hvs => ?_⟩
    have hV := eval_rel hs hvs x
    rw [e] at hV
    simp only [V] at hV ⊢
    obtain ⟨ej, he, hu⟩ := hV
    exact ⟨_, run a w _ hu, ej, he, by rw [add_none]⟩
  · rename_i e
    refine ⟨_, hk, OpRes.still fun J M w a hr hs hvs => ?_⟩
    have hV := eval_rel hs hvs x
    rw [e] at hV
    simp only [V, VR] at hV ⊢
    obtain ⟨ad, hu, hs⟩ := hV
    refine ⟨_, run a w _ hu, _, rfl, VRs_iff.2 fun i y hy => ?_⟩
    rw [List.getElem?_drop] at hy
    obtain ⟨v, hv, hV⟩ := VRs_iff.1 hs _ _ hy
    exact ⟨v, by rw [add_add]; exact hv, hV⟩
  · cases hk
theorem elemSz_inv {t : TypeId} {sz bytes : Nat} {e : TypeId} (hh : elemSz P t = some (sz, bytes, e)) : P.underlying t = some (.slice e) ∧ ∃ i, P.info? e = some i ∧ i.size = sz ∧ i.bytes = bytes := by
  unfold elemSz at hh
  split at hh
  case h_2 => cases hh
  split at hh
  case h_2 => cases hh
  simp only [Option.some.injEq, Prod.mk.injEq] at hh
  obtain ⟨rfl, rfl, rfl⟩ := hh
  exact ⟨‹_›, _, ‹_›, rfl, rfl⟩
theorem snd_indexAddr {t : TypeId} {x y : Operand} {sz bytes : Nat} {e : TypeId} {i : Int} {K' : AV → Option R} (ho : o.op = .indexAddr t x y) (he : elemSz P t = some (sz, bytes, e)) (hy : aeval ts y = .rv (.int .i64 i))
    (hk : ixa sz (aeval ts x) i K' = some r) : ∃ v, K' v = some r ∧ OpRes P o ts h v h := by
  obtain ⟨hd, inf, hi, rfl, _⟩ := elemSz_inv he
  have run : ∀ (a : Act) (w : World) (ad : Addr) (len cap : Nat), a.eval y = .int .i64 i → a.eval x = .slice (some ad) len cap → 0 ≤ i → i < len →
      (execOp a.eval o).run P w = .ok (.value (.pointer (some (ad.add (i.toNat * inf.size))))) w := by
    intro a w ad len cap hy hx h0 h1
    simp [execOp, ho, Instr.indexAt, hy, hx, asIntOf, underlying_run hd, h0, h1, sizeOf_run hi]
  unfold ixa at hk
  split at hk
  · rename_i ob ver off len hx
    split at hk
    case isFalse => cases hk
    rename_i hb
    refine ⟨_, hk, OpRes.still fun J M w a hr hs hvs => ?_⟩
    have h1 := eval_rel hs hvs y
    have h2 := eval_rel hs hvs x
    rw [hy] at h1
    rw [hx] at h2
    simp only [V] at h2
    obtain ⟨e', he', ad, cap, hxv, hlc, hcap⟩ := h2
    refine ⟨_, run a w ad len cap (V_int h1) hxv hb.1 hb.2, ?_⟩
    rcases hcap with h0 | ⟨rfl, _⟩
    · omega
    · simp only [V]
      exact ⟨e', he', by rw [add_none]⟩
  · rename_i cs len hx
    split at hk
    case isFalse => cases hk
    rename_i hb
    refine ⟨_, hk, OpRes.still fun J M w a hr hs hvs => ?_⟩
    have h1 := eval_rel hs hvs y
    have h2 := eval_rel hs hvs x
    rw [hy] at h1
    rw [hx] at h2
    simp only [V, VR] at h2
    obtain ⟨ad, cap, hxv, hlc, hc⟩ := h2
    refine ⟨_, run a w ad len cap (V_int h1) hxv hb.1 hb.2, ?_⟩
    simp only [V, VR]
    refine ⟨_, rfl, VRs_iff.2 fun j z hz => ?_⟩
    rw [List.getElem?_drop] at hz
    obtain ⟨v, hv, hV⟩ := VRs_iff.1 hc _ _ hz
    exact ⟨v, by rw [add_add]; exact hv, hV⟩
  · cases hk
theorem snd_len {x : Operand} {t e : TypeId} {c : Call} {K' : Int → Option R} (ho : o.op = .call c) (hc : c.callee = .builtin .len) (ha : c.args.toList = [x])
    (hct : c.argTypes.toList = [t]) (hd : P.underlying t = some (.slice e)) (hk : lna (aeval ts x) K' = some r) : ∃ n, K' n = some r ∧ OpRes P o ts h (ai n) h := by
  have hargs : c.args = #[x] := by rw [← c.args.toArray_toList, ha]
  have hats : c.argTypes = #[t] := by rw [← c.argTypes.toArray_toList, hct]
  have run : ∀ (a : Act) (w : World), (execOp a.eval o).run P w = ((Builtin.len_ #[t] o.type #[a.eval x]).run P w).andThen fun v w => .ok (.value v) w := by
    intro a w
    simp [execOp, ho, resolve, hc, invoke, builtin, hargs, hats]
  have key : ∀ n : Int, K' n = some r → (∀ J M v, V J M (aeval ts x) v → ∀ w, (Builtin.len_ #[t] o.type #[v]).run P w = .ok (.int .i64 n) w) → ∃ n, K' n = some r ∧ OpRes P o ts h (ai n) h := by
    intro n hn H
    refine ⟨n, hn, OpRes.still fun J M w a hr hs hvs => ⟨.int .i64 n, ?_, V_int' _ _⟩⟩
    rw [run, H J M _ (eval_rel hs hvs x) w]
    rfl
  unfold lna at hk
  split at hk
  · rename_i e
    refine key _ hk fun J M v hV w => ?_
    rw [e] at hV
    simp only [V] at hV
    obtain ⟨_, _, _, _, rfl, _⟩ := hV
    simp [Builtin.len_, underlying_run hd, goInt]
  · rename_i e
    refine key _ hk fun J M v hV w => ?_
    rw [e] at hV
    simp only [V, VR] at hV
    obtain ⟨_, _, rfl, _⟩ := hV
    simp [Builtin.len_, underlying_run hd, goInt]
  · rename_i e
    refine key _ hk fun J M v hV w => ?_
    rw [e] at hV
    simp only [V, VR] at hV
    subst hV
    simp [Builtin.len_, underlying_run hd, goInt]
  · cases hk
theorem snd_lens {x : Operand} {t : TypeId} {c : Call} {K' : Int → Option R} (ho : o.op = .call c) (hc : c.callee = .builtin .len) (ha : c.args.toList = [x])
    (hct : c.argTypes.toList = [t]) (hd : P.underlying t = some .string) (hk : lns (aeval ts x) K' = some r) : ∃ n, K' n = some r ∧ OpRes P o ts h (ai n) h := by
  have hargs : c.args = #[x] := by rw [← c.args.toArray_toList, ha]
  have hats : c.argTypes = #[t] := by rw [← c.argTypes.toArray_toList, hct]
  unfold lns at hk
  split at hk
  case h_2 => cases hk
  rename_i s e
  refine ⟨_, hk, OpRes.still fun J M w a hr hs hvs => ⟨.int .i64 s.size, ?_, V_int' _ _⟩⟩
  have hV := eval_rel hs hvs x
  rw [e] at hV
  simp only [V, VR] at hV
  simp [execOp, ho, resolve, hc, invoke, builtin, hargs, hats, hV, Builtin.len_, underlying_run hd, goInt]
theorem V_tuple {J M} {l : List AV} {v : Value} (hV : V J M (.tuple l) v) : ∃ vs : Array Value, v = .tuple vs ∧ vs.size = l.length ∧ Vs J M l (fun i => vs[i]?) := by simpa only [V] using hV
theorem snd_extract {x : Operand} {i : Nat} {K' : AV → Option R} (ho : o.op = .extract x i) (hk : xtr (aeval ts x) i K' = some r) : ∃ v, K' v = some r ∧ OpRes P o ts h v h := by
  unfold xtr at hk
  split at hk
  · rename_i cs hx
    split at hk
    case h_2 => cases hk
    rename_i c hc
    refine ⟨_, hk, OpRes.still fun J M w a hr hs hvs => ?_⟩
    have hV := eval_rel hs hvs x
    rw [hx] at hV
    simp only [V] at hV
    obtain ⟨vs, hv, _, hs⟩ := hV
    obtain ⟨u, hu, hU⟩ := Vs_iff.1 hs _ _ hc
    exact ⟨u, by simp [execOp, ho, hv, Instr.extract, hu], hU⟩
  · rename_i cs hx
    split at hk
    case h_2 => cases hk
    rename_i c hc
    refine ⟨_, hk, OpRes.still fun J M w a hr hs hvs => ?_⟩
    have hV := eval_rel hs hvs x
    rw [hx] at hV
    simp only [V, VR] at hV
    obtain ⟨vs, hv, _, hs⟩ := hV
    obtain ⟨u, hu, hU⟩ := VRs_iff.1 hs _ _ hc
    exact ⟨u, by simp [execOp, ho, hv, Instr.extract, hu], by simpa only [V] using hU⟩
  · cases hk
theorem zero1_inv {t : TypeId} {z : AV} (hz : zero1 P t = some z) : ∃ v, (∀ w, (zeroValue t).run P w = .ok v w) ∧ z = ofVal v := by
  unfold zero1 at hz
  split at hz
  case h_2 => cases hz
  rename_i i hi
  split at hz
  · cases hz
  · rename_i v _ hv
    simp only [Option.some.injEq] at hz
    exact ⟨v, fun w => run_zeroValue hi hv w, hz.symm⟩
  · cases hz
theorem snd_typeAssert {x : Operand} {s t : TypeId} {d : TypeDesc} {K' : AV → Option R} (ho : o.op = .typeAssert x s t true) (hd : P.underlying t = some d) (hn : ∀ ms, d ≠ .interface ms)
    (hk : tasA t (zero1 P t) (aeval ts x) K' = some r) : ∃ v, K' v = some r ∧ OpRes P o ts h v h := by
  unfold tasA at hk
  split at hk
  case h_2 => cases hk
  rename_i u rr hx
  have two : ∀ {J M} (a b : AV) (u v : Value), V J M a u → V J M b v → V J M (.tuple [a, b]) (.tuple #[u, v]) := by
    intro J M a b u v ha hb
    simp only [V, Vs]
    exact ⟨_, rfl, rfl, ⟨u, rfl, ha⟩, ⟨v, rfl, hb⟩, trivial⟩
  split at hk
  · rename_i hut
    subst hut
    refine ⟨_, hk, OpRes.still fun J M w a hr hs hvs => ?_⟩
    have hV := eval_rel hs hvs x
    rw [hx] at hV
    simp only [V, VR] at hV
    obtain ⟨z, hv, hz⟩ := hV
    refine ⟨.tuple #[z, .bool true], ?_, two _ _ _ _ (by simpa only [V] using hz) (V_bool' _)⟩
    simp only [execOp, ho, hv, Instr.typeAssert, Sem.run_bind, underlying_run hd, Result.andThen_ok]
    cases d <;> simp_all
  · rename_i hut
    split at hk
    case h_2 => cases hk
    rename_i c hc
    obtain ⟨v0, hrun, rfl⟩ := zero1_inv hc
    refine ⟨_, hk, OpRes.still fun J M w a hr hs hvs => ?_⟩
    have hV := eval_rel hs hvs x
    rw [hx] at hV
    simp only [V, VR] at hV
    obtain ⟨z, hv, hz⟩ := hV
    refine ⟨.tuple #[v0, .bool false], ?_, two _ _ _ _ (V_ofVal _) (V_bool' _)⟩
    simp only [execOp, ho, hv, Instr.typeAssert, Sem.run_bind, underlying_run hd, Result.andThen_ok]
    cases d <;> simp_all
theorem snd_field {t : TypeId} {x : Operand} {i off : Nat} {ft : TypeId} {K' : AV → Option R} (ho : o.op = .field t x i) (hf : fieldOff P t i = some (off, ft)) (hd : (P.underlying ft).isSome = true)
    (hk : fldA (P.cellsOf ft) off (!isAggD (P.underlying ft)) (aeval ts x) K' = some r) : ∃ v, K' v = some r ∧ OpRes P o ts h v h := by
  unfold fieldOff at hf
  split at hf
  case h_2 => cases hf
  rename_i fs hdt
  split at hf
  case h_2 => cases hf
  rename_i f hfi
  simp only [Option.some.injEq, Prod.mk.injEq] at hf
  obtain ⟨rfl, rfl⟩ := hf
  obtain ⟨d, hd⟩ := Option.isSome_iff_exists.1 hd
  obtain ⟨inf, hi⟩ := info_of_underlying hd
  rw [hd, cellsOf_eq hi] at hk
  unfold fldA at hk
  split at hk
  case h_1 => cases hk
  rename_i cs hcs
  have hagg : ∀ J M u, V J M (aeval ts x) u → ∃ cs, u = .agg cs := by
    intro J M u hV
    unfold acells at hcs
    split at hcs
    · rename_i e; rw [e] at hV; simp only [V, VR] at hV; obtain ⟨vs, rfl, _⟩ := hV; exact ⟨vs, rfl⟩
    · rename_i e; rw [e] at hV; simp only [V] at hV; obtain ⟨vs, rfl, _⟩ := hV; exact ⟨vs, rfl⟩
    · cases hcs
  replace hcs : vcells (aeval ts x) = some cs := by
    unfold acells at hcs
    split at hcs
    · rename_i e; rw [e]; exact hcs
    · rename_i e; rw [e]; exact hcs
    · cases hcs
  split at hk
  case isFalse => cases hk
  rename_i hle
  split at hk
  · rename_i hsing
    split at hk
    case h_2 => cases hk
    rename_i c hc
    refine ⟨_, hk, OpRes.still fun J M w a hr hs hvs => ?_⟩
    have hV := eval_rel hs hvs x
    obtain ⟨us, hu⟩ := hagg J M _ hV
    obtain ⟨hsz, hcv⟩ := vcells_sound hV hcs
    rw [hu] at hcv hsz
    obtain ⟨u, hu', hU⟩ := Vs_iff.1 hcv _ _ hc
    refine ⟨u, ?_, hU⟩
    have ha : isAggD (some d) = false := by simpa using hsing
    simp only [Value.cells] at hu'
    simp [execOp, ho, hu, Instr.field, underlying_run hdt, hfi, asAgg, part, isAgg_run hd, ha, hu']
  · rename_i hsing
    refine ⟨_, hk, OpRes.still fun J M w a hr hs hvs => ?_⟩
    have hV := eval_rel hs hvs x
    obtain ⟨us, hu⟩ := hagg J M _ hV
    obtain ⟨hsz, hcv⟩ := vcells_sound hV hcs
    rw [hu] at hcv hsz
    simp only [Value.cells] at hcv hsz
    have ha : isAggD (some d) = true := by simpa using hsing
    refine ⟨.agg (us.extract f.offset (f.offset + inf.size)), ?_, ?_⟩
    · simp [execOp, ho, hu, Instr.field, underlying_run hdt, hfi, asAgg, part, isAgg_run hd, ha, sizeOf_run hi]
    · simp only [V]
      refine ⟨_, rfl, by simp; omega, Vs_iff.2 fun j y hy => ?_⟩
      rw [List.getElem?_take] at hy
      split at hy
      case isFalse => cases hy
      rename_i hj
      rw [List.getElem?_drop] at hy
      obtain ⟨u, hu', hU⟩ := Vs_iff.1 hcv _ _ hy
      refine ⟨u, ?_, hU⟩
      rw [Array.getElem?_extract, if_pos (by omega)]
      exact hu'
theorem zrep_get (z : List AV) (hz : 1 ≤ z.length) : ∀ (n i : Nat), (zrep z n)[i]? = if i < n * z.length then z[i % z.length]? else none
  | 0, i => by simp [zrep]
  | n + 1, i => by
    have ih := zrep_get z hz n
    unfold zrep at ih ⊢
    rw [List.replicate_succ, List.flatten_cons]
    by_cases hi : i < z.length
    · rw [List.getElem?_append_left hi, Nat.mod_eq_of_lt hi, if_pos]
      rw [Nat.succ_mul]; omega
    · rw [List.getElem?_append_right (by omega), ih (i - z.length)]
      have e1 : (i - z.length) % z.length = i % z.length := by rw [← Nat.mod_eq_sub_mod (by omega)]
      rw [e1]
      congr 1
      rw [Nat.succ_mul]
      apply propext
      omega
theorem zeroE_inv {e : TypeId} {sz : Nat} {z : List AV} (hz : zeroE P e sz = some z) : zeroA P e = some z ∧ z.length = sz ∧ 1 ≤ sz := by
  unfold zeroE at hz
  split at hz
  case h_2 => cases hz
  rcases bsq_inv hz with ⟨hb, hz⟩ | ⟨_, hz⟩
  · simp only [Option.some.injEq] at hz
    subst hz
    simp only [Bool.and_eq_true, Nat.ble_eq] at hb
    exact ⟨‹_›, Nat.eq_of_beq_eq_true hb.1, hb.2⟩
  · cases hz
/-- The cells that 'make' lays. -/
theorem Vs_made {J M} (z : Array Value) (hz : 1 ≤ z.size) (n m : Nat) (hnm : n ≤ m) : Vs J M (zrep (z.toList.map ofVal) n) (fun i => ((Array.range (m * z.size)).map (z[· % z.size]!))[i]?) := by
  refine Vs_iff.2 fun i x hx => ?_
  rw [zrep_get _ (by simpa using hz)] at hx
  simp only [List.length_map, Array.length_toList] at hx
  split at hx
  case isFalse => cases hx
  rename_i hi
  rw [List.getElem?_map, Option.map_eq_some_iff] at hx
  obtain ⟨v, hv, rfl⟩ := hx
  have hlt : i % z.size < z.size := Nat.mod_lt _ (by omega)
  have him : i < m * z.size := Nat.lt_of_lt_of_le hi (Nat.mul_le_mul_right _ hnm)
  refine ⟨v, ?_, V_ofVal v⟩
  rw [Array.getElem?_map, Array.getElem?_range, if_pos him]
  simp only [Option.map_some, Option.some.injEq]
  rw [getElem!_pos z _ hlt]
  rw [Array.getElem?_toList, Array.getElem?_eq_getElem hlt] at hv
  exact Option.some.inj hv
theorem run_make {t e : TypeId} {sz bytes : Nat} {z : List AV} (he : elemSz P t = some (sz, bytes, e)) (hz : zeroE P e sz = some z) {n m : Int} (h0 : 0 ≤ n) (hnm : n ≤ m) (hm : m ≤ room) (hb : bytes * m ≤ room) {J M} (w : World) :
    ∃ c, Vs J M (zrep z n.toNat) (fun i => c[i]?) ∧ m.toNat * sz ≤ c.size ∧ (Instr.makeSlice t (.int .i64 n) (.int .i64 m)).run P w = .ok (.slice (some ⟨w.heap.size, 0, none⟩) n.toNat m.toNat) (w.alloc (.cells c e)) := by
  obtain ⟨hd, inf, hi, rfl, rfl⟩ := elemSz_inv he
  obtain ⟨hza, hzl, hz1⟩ := zeroE_inv hz
  obtain ⟨i2, zz, hi2, hzz, rfl⟩ := zeroA_inv hza
  rw [hi] at hi2
  cases hi2
  simp only [List.length_map, Array.length_toList] at hzl
  unfold room at hm hb
  have w1 : IntKind.i64.wrap n = n := wrap_small h0 (by omega)
  have w2 : IntKind.i64.wrap m = m := wrap_small (by omega) hm
  have hnn : ¬ m < 0 := by omega
  have hbb : ¬ (281474976710656 : Int) < (inf.bytes : Int) * m := by omega
  have h1 : ¬ n < 0 := by omega
  have h2 : ¬ n > m := by omega
  refine ⟨(Array.range (m.toNat * inf.size)).map (zz.cells[· % zz.cells.size]!), ?_, by simp, ?_⟩
  · have := Vs_made (J := J) (M := M) zz.cells (by omega) n.toNat m.toNat (by omega)
    rw [hzl] at this ⊢
    exact this
  · by_cases hmz : m.toNat * inf.size = 0
    · have hm0 : m.toNat = 0 := by
        rcases Nat.mul_eq_zero.1 hmz with h | h <;> omega
      simp [Instr.makeSlice, underlying_run hd, Go.asInt, asIntOf, typeInfo, hi, w1, w2, hnn, hbb, h1, h2, sizeOf_run hi, newRow, hm0, show Array.range 0 = (#[] : Array Nat) from rfl]
    · simp [Instr.makeSlice, underlying_run hd, Go.asInt, asIntOf, typeInfo, hi, w1, w2, hnn, hbb, h1, h2, sizeOf_run hi, hmz, newRow, run_zeroValue hi hzz]
end ops
end Go.Proofs.Ytknphnmhjmejaaa
