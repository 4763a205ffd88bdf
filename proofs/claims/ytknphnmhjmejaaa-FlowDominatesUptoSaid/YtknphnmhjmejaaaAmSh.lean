/-  The abstract machine's regions whose order is drawn. No conditions. -/
import Derived.Test.YtknphnmhjmejaaaAmSg
namespace Go.Proofs.Ytknphnmhjmejaaa
set_option linter.unusedVariables false
set_option linter.unusedSimpArgs false

section push
variable {R S : Type} (f : R → Option S)
theorem bsq_push (b : Bool) (x y : Option R) : (bsq b x y).bind f = bsq b (x.bind f) (y.bind f) := by cases b <;> rfl
theorem bsp_push (b : Bool) (x y : Option R) : (bsp b x y).bind f = bsp b (x.bind f) (y.bind f) := by cases b <;> rfl
theorem asInt_push (k : IntKind) (x : AV) (K : Int → Option R) : (asInt k x K).bind f = asInt k x fun n => (K n).bind f := by
  unfold asInt; split
  · split <;> rfl
  · rfl
theorem asBool_push (x : AV) (K : Bool → Option R) : (asBool x K).bind f = asBool x fun n => (K n).bind f := by
  unfold asBool; split <;> rfl
theorem castD_push (d : Option TypeDesc) (x : AV) (K : AV → Option R) : (castD d x K).bind f = castD d x fun n => (K n).bind f := by
  unfold castD; split
  · exact asInt_push f _ _ _
  · exact asBool_push f _ _
  · rfl
theorem ldv_push (h : Hp) (p : AV) (K : AV → Option R) : (ldv h p K).bind f = ldv h p fun n => (K n).bind f := by
  unfold ldv; split <;> rfl
theorem ldi_push (k : IntKind) (h : Hp) (p : AV) (K : Int → Option R) : (ldi k h p K).bind f = ldi k h p fun n => (K n).bind f := by
  unfold ldi; rw [ldv_push]; congr 1; funext x; exact asInt_push f _ _ _
theorem ldb_push (h : Hp) (p : AV) (K : Bool → Option R) : (ldb h p K).bind f = ldb h p fun n => (K n).bind f := by
  unfold ldb; rw [ldv_push]; congr 1; funext x; exact asBool_push f _ _
theorem ldg_push (n : Nat) (h : Hp) (p : AV) (K : AV → Option R) : (ldg n h p K).bind f = ldg n h p fun n => (K n).bind f := by
  unfold ldg; split <;> rfl
theorem stv_push (sz : Nat) (h : Hp) (p v : AV) (K : Hp → Option R) : (stv sz h p v K).bind f = stv sz h p v fun n => (K n).bind f := by
  unfold stv
  split
  · rfl
  split
  · split
    · split <;> rfl
    · rfl
  · rfl
theorem nwc_push (e : Nat) (cs : Option (List AV)) (h : Hp) (K : AV → Hp → Option R) : (nwc e cs h K).bind f = nwc e cs h fun v h => (K v h).bind f := by
  unfold nwc; split <;> rfl
theorem pad_push (p : AV) (n : Nat) (K : AV → Option R) : (pad p n K).bind f = pad p n fun n => (K n).bind f := by
  unfold pad; split <;> rfl
theorem ixa_push (e : Nat) (v : AV) (i : Int) (K : AV → Option R) : (ixa e v i K).bind f = ixa e v i fun n => (K n).bind f := by
  unfold ixa; split
  · split <;> rfl
  · split <;> rfl
  · rfl
theorem lna_push (v : AV) (K : Int → Option R) : (lna v K).bind f = lna v fun n => (K n).bind f := by
  unfold lna; split <;> rfl
theorem lns_push (v : AV) (K : Int → Option R) : (lns v K).bind f = lns v fun n => (K n).bind f := by
  unfold lns; split <;> rfl
theorem nck_push (v : AV) (K : AV → Option R) : (nck v K).bind f = nck v fun n => (K n).bind f := by
  unfold nck; split <;> rfl
theorem pnc_push (v : AV) (K : AV → Option R) : (pnc v K).bind f = pnc v fun n => (K n).bind f := by
  unfold pnc; split <;> rfl
theorem mks_push (e b : Nat) (z : List AV) (h : Hp) (n : Int) (K : AV → Hp → Option R) : (mks e b z h n K).bind f = mks e b z h n fun v h => (K v h).bind f := by
  unfold mks; split <;> rfl
theorem mkc_push (e b : Nat) (z : List AV) (h : Hp) (n m : Int) (K : AV → Hp → Option R) : (mkc e b z h n m K).bind f = mkc e b z h n m fun v h => (K v h).bind f := by
  unfold mkc; split <;> rfl
theorem apn_push (e b : Nat) (h : Hp) (v w : AV) (K : AV → Hp → Option R) : (apn e b h v w K).bind f = apn e b h v w fun v h => (K v h).bind f := by
  unfold apn
  split
  · rfl
  split
  · split
    · rfl
    · split <;> rfl
  · split
    · split <;> rfl
    · rfl
  · rfl
theorem slc_push (e : Nat) (h : Hp) (v : AV) (lo hi : Option Int) (K : AV → Option R) : (slc e h v lo hi K).bind f = slc e h v lo hi fun n => (K n).bind f := by
  unfold slc
  split
  · split <;> rfl
  · split <;> rfl
  · split <;> rfl
  · rfl
theorem bld_push (z : List AV) (ps : List (Option (Nat × Nat) × AV)) (K : AV → Option R) : (bld z ps K).bind f = bld z ps fun n => (K n).bind f := by
  unfold bld; split <;> rfl
theorem bsl_push (sz len : Nat) (z : List AV) (ps : List (Option (Nat × Nat) × AV)) (h : Hp) (K : AV → Hp → Option R) : (bsl sz len z ps h K).bind f = bsl sz len z ps h fun v h => (K v h).bind f := by
  unfold bsl; split <;> rfl
theorem fldA_push (n off : Nat) (b : Bool) (x : AV) (K : AV → Option R) : (fldA n off b x K).bind f = fldA n off b x fun n => (K n).bind f := by
  unfold fldA
  split
  · rfl
  split
  · split
    · split <;> rfl
    · rfl
  · rfl
theorem xtr_push (x : AV) (i : Nat) (K : AV → Option R) : (xtr x i K).bind f = xtr x i fun n => (K n).bind f := by
  unfold xtr
  split
  · split <;> rfl
  · split <;> rfl
  · rfl
theorem tasA_push (t : TypeId) (z : Option AV) (x : AV) (K : AV → Option R) : (tasA t z x K).bind f = tasA t z x fun n => (K n).bind f := by
  unfold tasA
  split
  · split
    · rfl
    · split <;> rfl
  · rfl
theorem nilEq_push (g : Bool) (d : Nat) (a : AV) (K : Bool → Option R) : (nilEq g d a K).bind f = nilEq g d a fun n => (K n).bind f := by
  unfold nilEq; split <;> rfl
theorem binA_push (P : Program) (op : BinOp) (t : TypeId) (x y : Operand) (a b : AV) (K : AV → Option R) : (binA P op t x y a b K).bind f = binA P op t x y a b fun n => (K n).bind f := by
  unfold binA
  split
  · split <;> rfl
  · rfl
theorem binK_push (P : Program) (op : BinOp) (t : TypeId) (x y : Operand) (a b : AV) (K : AV → Option R) : (binK P op t x y a b K).bind f = binK P op t x y a b fun n => (K n).bind f := by
  unfold binK
  simp only [bsq_push]
  congr 1
  · split <;> first
      | exact binA_push f ..
      | (simp only [asInt_push]; done)
      | (simp only [asBool_push]; done)
      | (simp only [asInt_push]; congr 1; funext m; congr 1; funext n; split <;> rfl)
  · congr 1
    split
    · exact nilEq_push f ..
    · exact nilEq_push f ..
    · rfl
theorem unK_push (P : Program) (op : UnOp) (a : AV) (K : AV → Option R) : (unK P op a K).bind f = unK P op a fun n => (K n).bind f := by
  unfold unK
  split
  · exact asBool_push f _ _
  · split
    · split <;> rfl
    · rfl
theorem cvK_push (P : Program) (s d : TypeId) (a : AV) (K : AV → Option R) : (cvK P s d a K).bind f = cvK P s d a fun n => (K n).bind f := by
  unfold cvK
  split
  · exact asInt_push f _ _ _
  · rfl
theorem callP_push (F : List RV → Option Res) (h : Hp) (args : List AV) (K Kp : AV → Option R) : (callP F h args K Kp).bind f = callP F h args (fun n => (K n).bind f) (fun n => (Kp n).bind f) := by
  unfold callP
  split
  · split
    · split <;> rfl
    · split <;> rfl
    · rfl
  · rfl
theorem callC_push (Γ : FuncId → Option Callee) (g : FuncId) (h : Hp) (args : List AV) (K Kp : AV → Hp → Option R) : (callC Γ g h args K Kp).bind f = callC Γ g h args (fun v h => (K v h).bind f) (fun v h => (Kp v h).bind f) := by
  unfold callC
  split
  · exact callP_push f ..
  · unfold callG; split <;> rfl
  · rfl
theorem callV_push (Γ : FuncId → Option Callee) (g : AV) (h : Hp) (args : List AV) (K Kp : AV → Hp → Option R) : (callV Γ g h args K Kp).bind f = callV Γ g h args (fun v h => (K v h).bind f) (fun v h => (Kp v h).bind f) := by
  unfold callV
  split
  · exact callC_push f ..
  · rfl
end push

inductive Out where
  | val (v : AV) (h : Hp)
  | pan (v : AV) (h : Hp)
section
variable (P : Program) (Γ : FuncId → Option Callee) {R : Type}
/-- An operation as a function. -/
noncomputable def aopO (o : Oper) (σ : St) : Option Out := aop P Γ o σ (fun v h => some (.val v h)) (fun v h => some (.pan v h))
def outK (K Kp : AV → Hp → Option R) : Out → Option R
  | .val v h => K v h
  | .pan v h => Kp v h
theorem callO_push {S : Type} (f : R → Option S) (type : TypeId) (c : Call) (ev : Operand → AV) (h : Hp) (K Kp : AV → Hp → Option R) : (callO P Γ type c ev h K Kp).bind f = callO P Γ type c ev h (fun v h => (K v h).bind f) (fun v h => (Kp v h).bind f) := by
  unfold callO
  split
  · rw [callV_push]; congr 1; funext v h; exact castD_push f ..
  · rfl
  · split
    · split
      · exact lna_push f ..
      · exact lns_push f ..
      · rfl
    · rfl
  · split
    · split
      · rw [bsq_push, apn_push]; rfl
      · rfl
    · rfl
  · rfl
theorem aop_push {S : Type} (f : R → Option S) (o : Oper) (σ : St) (K Kp : AV → Hp → Option R) : (aop P Γ o σ K Kp).bind f = aop P Γ o σ (fun v h => (K v h).bind f) (fun v h => (Kp v h).bind f) := by
  unfold aop
  simp only
  split
  · rfl
  · rfl
  · rw [asBool_push]; congr 1; funext t; exact bsp_push f ..
  · exact nwc_push f ..
  · exact nwc_push f ..
  · split
    · rw [bsq_push, bld_push]; rfl
    · rfl
  · split
    · split
      · rw [bsq_push, bsl_push]; rfl
      · rfl
    · rfl
  · split
    · rfl
    · rw [bsq_push, ldg_push]; rfl
    · rw [bsq_push, ldg_push]; rfl
    · exact ldi_push f ..
    · exact ldb_push f ..
    · exact ldv_push f ..
  · rw [bsq_push, stv_push]; rfl
  · exact nck_push f ..
  · exact binK_push f ..
  · exact unK_push f ..
  · exact cvK_push f ..
  · split <;> rfl
  · rfl
  · split
    · split
      · rw [bsq_push, asInt_push, asInt_push]
        congr 1
        · congr 1; funext n; exact mks_push f ..
        · congr 1; funext n; rw [asInt_push]; congr 1; funext m; exact mkc_push f ..
      · rfl
    · rfl
  · split
    · split
      · exact slc_push f ..
      · rw [asInt_push]; congr 1; funext n; exact slc_push f ..
      · rw [asInt_push]; congr 1; funext n; exact slc_push f ..
      · rw [asInt_push]; congr 1; funext n; rw [asInt_push]; congr 1; funext m; exact slc_push f ..
    · rfl
  · split
    · rw [bsq_push, pad_push]; rfl
    · rfl
  · split
    · rw [bsq_push, fldA_push]; congr 2; funext v; exact castD_push f ..
    · rfl
  · split
    · rw [asInt_push]; congr 1; funext n; exact ixa_push f ..
    · rfl
  · split
    · rfl
    · exact tasA_push f ..
    · rfl
  · rw [xtr_push]; congr 1; funext v; exact castD_push f ..
  · exact callO_push P Γ f ..
  · exact pnc_push f ..
  · rfl
theorem aop_nat (o : Oper) (σ : St) (K Kp : AV → Hp → Option R) : aop P Γ o σ K Kp = (aopO P Γ o σ).bind (outK K Kp) := by
  unfold aopO
  rw [aop_push]
  rfl
/-- What the heap has no part in. -/
theorem aop_free (o : Oper) (hc : calmO Γ o.op = 0) (ts : List AV) : ∃ c : Option AV, ∀ h, aopO P Γ o ⟨ts, h⟩ = c.bind fun v => some (.val v h) := by
  have fin : ∀ (c : Option AV) (h : Hp) (x : Option Out), (c.bind fun v => some (Out.val v h)) = x → x = c.bind fun v => some (.val v h) := fun _ _ _ e => e.symm
  unfold aopO aop
  simp only
  split
  · exact ⟨some _, fun h => rfl⟩
  · exact ⟨some _, fun h => rfl⟩
  · exact ⟨asBool _ fun t => bsp t (some _) (some _), fun h => by rw [asBool_push]; congr 1; funext t; rw [bsp_push]; rfl⟩
  · rename_i e; rw [e] at hc; cases hc
  · rename_i e; rw [e] at hc; cases hc
  · split
    · exact ⟨bsq _ (bld _ _ some) none, fun h => by rw [bsq_push, bld_push]; rfl⟩
    · exact ⟨none, fun h => rfl⟩
  · rename_i e; rw [e] at hc; cases hc
  · rename_i e; rw [e] at hc; cases hc
  · rename_i e; rw [e] at hc; cases hc
  · exact ⟨nck _ some, fun h => by rw [nck_push]; rfl⟩
  · exact ⟨binK P _ _ _ _ _ _ some, fun h => by rw [binK_push]; rfl⟩
  · exact ⟨unK P _ _ some, fun h => by rw [unK_push]; rfl⟩
  · exact ⟨cvK P _ _ _ some, fun h => by rw [cvK_push]; rfl⟩
  · split
    · exact ⟨none, fun h => rfl⟩
    · exact ⟨some _, fun h => rfl⟩
    · exact ⟨none, fun h => rfl⟩
  · exact ⟨some _, fun h => rfl⟩
  · rename_i e; rw [e] at hc; cases hc
  · rename_i e; rw [e] at hc; cases hc
  · split
    · exact ⟨bsq _ none (pad _ _ some), fun h => by rw [bsq_push, pad_push]; rfl⟩
    · exact ⟨none, fun h => rfl⟩
  · split
    · exact ⟨bsq _ (fldA _ _ _ _ fun v => castD _ v some) none, fun h => by rw [bsq_push, fldA_push]; congr 2; funext v; rw [castD_push]; rfl⟩
    · exact ⟨none, fun h => rfl⟩
  · split
    · exact ⟨asInt _ _ fun n => ixa _ _ n some, fun h => by rw [asInt_push]; congr 1; funext n; rw [ixa_push]; rfl⟩
    · exact ⟨none, fun h => rfl⟩
  · split
    · exact ⟨none, fun h => rfl⟩
    · exact ⟨tasA _ _ _ some, fun h => by rw [tasA_push]; rfl⟩
    · exact ⟨none, fun h => rfl⟩
  · exact ⟨xtr _ _ fun v => castD _ v some, fun h => by rw [xtr_push]; congr 1; funext v; rw [castD_push]; rfl⟩
  · rename_i c e
    rw [e] at hc
    unfold callO
    split
    · rename_i fo hf
      exfalso
      obtain ⟨cal, as, ats⟩ := c
      simp only at hf
      subst hf
      cases fo with
      | func g =>
        simp only [calmO] at hc
        split at hc <;> cases hc
      | _ => simp [calmO, calm] at hc
    · exact ⟨none, fun h => rfl⟩
    · split
      · split
        · exact ⟨lna _ fun n => some (ai n), fun h => by rw [lna_push]; rfl⟩
        · exact ⟨lns _ fun n => some (ai n), fun h => by rw [lns_push]; rfl⟩
        · exact ⟨none, fun h => rfl⟩
      · exact ⟨none, fun h => rfl⟩
    · rename_i hf
      exfalso
      obtain ⟨cal, as, ats⟩ := c
      simp only at hf
      subst hf
      simp [calmO, calm] at hc
    · exact ⟨none, fun h => rfl⟩
  · rename_i e; rw [e] at hc; cases hc
  · exact ⟨none, fun h => rfl⟩
end
end Go.Proofs.Ytknphnmhjmejaaa
