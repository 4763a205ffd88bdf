/- The places and the unfolding equations of these functions (printed by gen.py of this repo): no conditions. -/
import Derived.Test.YtknphnmhjmejaaaGb3
import Derived.Test.YtknphnmhjmejaaaDef
namespace Go.Proofs.Ytknphnmhjmejaaa
set_option linter.unusedVariables false
set_option maxRecDepth 100000

/-! gantry/ssa.caught -/
abbrev id_ssa_caught : FuncId := 56
noncomputable def ssa_caught_G : FuncId → Option Callee := fun f => match f with
  | _ => none
def ssa_caught_A : Ann := [(31, [0, 3])]
def ssa_caught_R : List Nat := []
noncomputable def ssa_caught_c (k pos : Nat) : St → Cont (Hp) → Option (Hp) := acode Try.prog ssa_caught_G ssa_caught_A ssa_caught_R k (cdAt (pathOf pos) (bodyOf Try.f56)) pos
def ssa_caught_T31 (x0 : AV) (x3 : Int) : List AV := x0 :: an 2 ((.rv (.int .i64 x3)) :: an 15 ([]))
noncomputable def ssa_caught_p31 (k : Nat) (x0 : AV) (x3 : Int) (h : Hp) : Option (Hp) := pnt (ssa_caught_c k 31) ⟨ssa_caught_T31 x0 x3, h⟩ finE
theorem ssa_caught_p31_eq (k : Nat) (x0 : AV) (x3 : Int) (h : Hp) : ssa_caught_p31 k x0 x3 h = nck x0 fun v8 => stv 1 h v8 (.rv (.int .i64 x3)) fun h9 => some h9 := nrfl (by kernel_rfl)
theorem ssa_caught_eq (k : Nat) (pv : Option AV) (x0 : AV) (h : Hp) : fnR Try.prog ssa_caught_G ssa_caught_A ssa_caught_R k Try.f56 pv [x0] h = nilEq false 4 (recV pv) fun b1 => bsp (b1) (some h) (tasA 32 (some (.rv (.int .i64 0))) (recV pv) fun v2 => xtr v2 0 fun v3 => asInt .i64 v3 fun n4 => xtr v2 1 fun v5 => asBool v5 fun b6 => bsp ((!b6)) (pnc (recV pv) fun v7 => none) (ssa_caught_p31 k x0 (n4) (h))) := nrfl (by kernel_rfl)
theorem ssa_caught_good : Good Try.prog ssa_caught_G := fun f c hc => by cases hc
noncomputable def D_ssa_caught : Dfd := fun pv xs h => fnR Try.prog ssa_caught_G ssa_caught_A ssa_caught_R big Try.f56 pv xs h
theorem goodD_ssa_caught : GoodD Try.prog 56 D_ssa_caught := fnR_sound mixed ssa_caught_good (by kernel_rfl : Try.prog.funcs[56]? = some Try.f56) rfl rfl (fun pv xs h x e => ⟨big, e⟩)

/-! gantry/ssa.Flow -/
abbrev id_ssa_Flow : FuncId := 31
noncomputable def ssa_Flow_G : FuncId → Option Callee := fun f => match f with
  | 57 => some (.gen G_ssa_checker_shape)
  | 58 => some (.gen G_ssa_checker_flow)
  | _ => none
def ssa_Flow_A : Ann := []
def ssa_Flow_R : List Nat := []
noncomputable def ssa_Flow_c (k pos : Nat) : St → Cont (ARes × Hp) → Option (ARes × Hp) := acode Try.prog ssa_Flow_G ssa_Flow_A ssa_Flow_R k (cdAt (pathOf pos) (bodyOf Try.f31)) pos
noncomputable def ssa_Flow_D : FuncId → Option Dfd := fun f => match f with
  | 56 => some D_ssa_caught
  | _ => none
theorem ssa_Flow_gd : ∀ f D, ssa_Flow_D f = some D → GoodD Try.prog f D := by
  intro f D hD
  unfold ssa_Flow_D at hD
  split at hD
  · cases hD; exact goodD_ssa_caught
  · cases hD
theorem ssa_Flow_eq (k : Nat) (x0 : AV) (h : Hp) : fnD Try.prog ssa_Flow_G ssa_Flow_A ssa_Flow_R k ssa_Flow_D Try.f31 [x0] h = nwc 1 (vcells x0) h fun p1 h2 => nwc 1 (some [(.rv (.int .i64 0))]) h2 fun p3 h4 => ldg 4 h4 p1 fun v5 => bld [(.rv .nils), (.rv .nils), (.rv .nils), (.rv .nils), (.rv .nils), (.rv .nils), (.rv .nils), (.rv .nils), (.rv .nilp), (.rv .nils), (.rv .nils)] [(some (2, 4), v5)] fun v6 => nwc 1 (vcells v6) h4 fun p7 h8 => callG G_ssa_checker_shape h8 [p7] (fun r9 h11 => callG G_ssa_checker_flow h11 [p7] (fun r13 h15 => stv 1 h15 p3 (.rv (.int .i64 0)) fun h17 => fdk D_ssa_caught none [p3] h17 fun h18 => finR ((cellAt h18 p3 0)) h18) (fun q14 h16 => fdk D_ssa_caught (some q14) [p3] h16 fun h19 => finR ((cellAt h19 p3 0)) h19)) (fun q10 h12 => fdk D_ssa_caught (some q10) [p3] h12 fun h20 => finR ((cellAt h20 p3 0)) h20) := nrfl (by kernel_rfl)
theorem ssa_Flow_good : Good Try.prog ssa_Flow_G := by
  intro f c hc
  unfold ssa_Flow_G at hc
  split at hc
  · cases hc; exact good_ssa_checker_shape
  · cases hc; exact good_ssa_checker_flow
  · cases hc
noncomputable def F_ssa_Flow : List RV → Option Res := fun rs => pureR (fnD Try.prog ssa_Flow_G ssa_Flow_A ssa_Flow_R big ssa_Flow_D Try.f31 (rs.map .rv) [])
theorem good_ssa_Flow : GoodC Try.prog 31 (.pure F_ssa_Flow) := goodPD mixed ssa_Flow_good ssa_Flow_gd (by kernel_rfl : Try.prog.funcs[31]? = some Try.f31) rfl rfl (fun rs r h => ⟨big, h⟩)

/-! (*gantry/flow.set).has -/
abbrev id_flow_set_has : FuncId := 34
noncomputable def flow_set_has_G : FuncId → Option Callee := fun f => match f with
  | _ => none
def flow_set_has_A : Ann := [(7, [4])]
def flow_set_has_R : List Nat := []
noncomputable def flow_set_has_c (k pos : Nat) : St → Cont (ARes × Hp) → Option (ARes × Hp) := acode Try.prog flow_set_has_G flow_set_has_A flow_set_has_R k (cdAt (pathOf pos) (bodyOf Try.f34)) pos
def flow_set_has_T7 (x4 : Bool) : List AV := an 4 ((.rv (.bool x4)) :: an 30 ([]))
noncomputable def flow_set_has_p7 (k : Nat) (x4 : Bool) (h : Hp) : Option (ARes × Hp) := pnt (flow_set_has_c k 7) ⟨flow_set_has_T7 x4, h⟩ (finA Try.prog Try.f34)
theorem flow_set_has_p7_eq (k : Nat) (x4 : Bool) (h : Hp) : flow_set_has_p7 k x4 h = some (.ret (.rv (.bool x4)), h) := nrfl (by kernel_rfl)
theorem flow_set_has_eq (k : Nat) (x0 : AV) (x1 : Int) (h : Hp) : fnA Try.prog flow_set_has_G flow_set_has_A flow_set_has_R k Try.f34 [x0, (.rv (.int .i64 x1))] h = nck x0 fun v1 => pad v1 1 fun p2 => ldv h p2 fun v3 => ixa 1 v3 x1 fun p4 => ldi .i64 h p4 fun n5 => nck x0 fun v6 => pad v6 0 fun p7 => ldv h p7 fun v8 => lna v8 fun n9 => bsp ((decide (n5 < n9))) (nck x0 fun v10 => pad v10 0 fun p11 => ldv h p11 fun v12 => nck x0 fun v13 => pad v13 1 fun p14 => ldv h p14 fun v15 => ixa 1 v15 x1 fun p16 => ldi .i64 h p16 fun n17 => ixa 1 v12 n17 fun p18 => ldi .i64 h p18 fun n19 => flow_set_has_p7 k ((n19 == x1)) (h)) (flow_set_has_p7 k (false) (h)) := nrfl (by kernel_rfl)
theorem flow_set_has_good : Good Try.prog flow_set_has_G := fun f c hc => by cases hc
noncomputable def G_flow_set_has : List AV → Hp → Option (ARes × Hp) := fun xs h => fnA Try.prog flow_set_has_G flow_set_has_A flow_set_has_R big Try.f34 xs h
theorem good_flow_set_has : GoodC Try.prog 34 (.gen G_flow_set_has) := goodG mixed flow_set_has_good (by kernel_rfl : Try.prog.funcs[34]? = some Try.f34) rfl rfl (fun xs h x e => ⟨big, e⟩)

/-! (*gantry/flow.set).add -/
abbrev id_flow_set_add : FuncId := 33
noncomputable def flow_set_add_G : FuncId → Option Callee := fun f => match f with
  | 34 => some (.gen G_flow_set_has)
  | _ => none
def flow_set_add_A : Ann := []
def flow_set_add_R : List Nat := []
noncomputable def flow_set_add_c (k pos : Nat) : St → Cont (ARes × Hp) → Option (ARes × Hp) := acode Try.prog flow_set_add_G flow_set_add_A flow_set_add_R k (cdAt (pathOf pos) (bodyOf Try.f33)) pos
theorem flow_set_add_eq (k : Nat) (x0 : AV) (x1 : Int) (h : Hp) : fnA Try.prog flow_set_add_G flow_set_add_A flow_set_add_R k Try.f33 [x0, (.rv (.int .i64 x1))] h = callG G_flow_set_has h [x0, (.rv (.int .i64 x1))] (fun r1 h3 => asBool r1 fun b5 => bsp ((!b5)) (nck x0 fun v6 => pad v6 1 fun p7 => ldv h3 p7 fun v8 => nck x0 fun v9 => pad v9 0 fun p10 => ldv h3 p10 fun v11 => lna v11 fun n12 => ixa 1 v8 x1 fun p13 => stv 1 h3 p13 (.rv (.int .i64 n12)) fun h14 => nck x0 fun v15 => pad v15 0 fun p16 => ldv h14 p16 fun v17 => bsl 1 1 [(.rv (.int .i64 0))] [(some (0, 1), (.rv (.int .i64 x1)))] h14 fun v18 h19 => apn 1 8 h19 v17 v18 fun v20 h21 => nck x0 fun v22 => pad v22 0 fun p23 => stv 1 h21 p23 v20 fun h24 => some (.ret undefA, h24)) (some (.ret undefA, h3))) (fun q2 h4 => some (.pan q2, h4)) := nrfl (by kernel_rfl)
theorem flow_set_add_good : Good Try.prog flow_set_add_G := by
  intro f c hc
  unfold flow_set_add_G at hc
  split at hc
  · cases hc; exact good_flow_set_has
  · cases hc
noncomputable def G_flow_set_add : List AV → Hp → Option (ARes × Hp) := fun xs h => fnA Try.prog flow_set_add_G flow_set_add_A flow_set_add_R big Try.f33 xs h
theorem good_flow_set_add : GoodC Try.prog 33 (.gen G_flow_set_add) := goodG mixed flow_set_add_good (by kernel_rfl : Try.prog.funcs[33]? = some Try.f33) rfl rfl (fun xs h x e => ⟨big, e⟩)

/-! gantry/flow.Post closure 1 -/
abbrev id_flow_Post_c1 : FuncId := 32
noncomputable def flow_Post_c1_G (S : List AV → Hp → Option (ARes × Hp)) : FuncId → Option Callee := fun f => match f with
  | 32 => some (.gen S)
  | 33 => some (.gen G_flow_set_add)
  | 34 => some (.gen G_flow_set_has)
  | _ => none
def flow_Post_c1_A : Ann := [(7, [0, 4]), (52, [0, 1, 3, 4, 16, 17, 18]), (423, [0, 1, 3, 4, 16, 17, 18])]
def flow_Post_c1_R : List Nat := []
noncomputable def flow_Post_c1_c (S : List AV → Hp → Option (ARes × Hp)) (k pos : Nat) : St → Cont (ARes × Hp) → Option (ARes × Hp) := acode Try.prog (flow_Post_c1_G S) flow_Post_c1_A flow_Post_c1_R k (cdAt (pathOf pos) (bodyOf Try.f32)) pos
noncomputable def flow_Post_c1_K0 (S : List AV → Hp → Option (ARes × Hp)) (k : Nat) : Cont (ARes × Hp) := seqK (flow_Post_c1_c S k 7) true (clrA flow_Post_c1_A 7) (finA Try.prog Try.f32)
noncomputable def flow_Post_c1_K1 (S : List AV → Hp → Option (ARes × Hp)) (k : Nat) : Cont (ARes × Hp) := blkK 0 (flow_Post_c1_K0 S k)
noncomputable def flow_Post_c1_K2 (S : List AV → Hp → Option (ARes × Hp)) (k : Nat) (N52 M52 : Nat) : Cont (ARes × Hp) := itK (aloop (flow_Post_c1_c S k 52) (clrA flow_Post_c1_A 52) (trimOf flow_Post_c1_R 52) M52 N52) (clrA flow_Post_c1_A 52) (trimOf flow_Post_c1_R 52) M52 (flow_Post_c1_K1 S k)
def flow_Post_c1_T52 (x0 : Int) (x1 : AV) (x3 : AV) (x4 : AV) (x16 : AV) (x17 : Int) (x18 : Int) : List AV := (.rv (.int .i64 x0)) :: x1 :: an 1 (x3 :: x4 :: an 11 (x16 :: (.rv (.int .i64 x17)) :: (.rv (.int .i64 x18)) :: an 15 ([])))
noncomputable def flow_Post_c1_l52 (S : List AV → Hp → Option (ARes × Hp)) (k : Nat) (N52 M52 : Nat) (x0 : Int) (x1 : AV) (x3 : AV) (x4 : AV) (x16 : AV) (x17 : Int) (x18 : Int) (h : Hp) : Option (ARes × Hp) := aloop (flow_Post_c1_c S k 52) (clrA flow_Post_c1_A 52) (trimOf flow_Post_c1_R 52) M52 N52 ⟨flow_Post_c1_T52 x0 x1 x3 x4 x16 x17 x18, h⟩ (flow_Post_c1_K1 S k)
def flow_Post_c1_T423 (x0 : Int) (x1 : AV) (x3 : AV) (x4 : AV) (x16 : AV) (x17 : Int) (x18 : Int) : List AV := (.rv (.int .i64 x0)) :: x1 :: an 1 (x3 :: x4 :: an 11 (x16 :: (.rv (.int .i64 x17)) :: (.rv (.int .i64 x18)) :: an 15 ([])))
noncomputable def flow_Post_c1_p423 (S : List AV → Hp → Option (ARes × Hp)) (k : Nat) (N52 M52 : Nat) (x0 : Int) (x1 : AV) (x3 : AV) (x4 : AV) (x16 : AV) (x17 : Int) (x18 : Int) (h : Hp) : Option (ARes × Hp) := pnt (flow_Post_c1_c S k 423) ⟨flow_Post_c1_T423 x0 x1 x3 x4 x16 x17 x18, h⟩ (flow_Post_c1_K2 S k N52 M52)
def flow_Post_c1_T7 (x0 : Int) (x4 : AV) : List AV := (.rv (.int .i64 x0)) :: an 3 (x4 :: an 29 ([]))
noncomputable def flow_Post_c1_p7 (S : List AV → Hp → Option (ARes × Hp)) (k : Nat) (x0 : Int) (x4 : AV) (h : Hp) : Option (ARes × Hp) := pnt (flow_Post_c1_c S k 7) ⟨flow_Post_c1_T7 x0 x4, h⟩ (finA Try.prog Try.f32)
theorem flow_Post_c1_l52_eq (S : List AV → Hp → Option (ARes × Hp)) (k : Nat) (N52 M52 : Nat) (x0 : Int) (x1 : AV) (x3 : AV) (x4 : AV) (x16 : AV) (x17 : Int) (x18 : Int) (h : Hp) : flow_Post_c1_l52 S k (N52 + 1) M52 x0 x1 x3 x4 x16 x17 x18 h = bsp ((decide (x18 < x17))) (ixa 1 x16 x18 fun p12 => ldi .i64 h p12 fun n13 => ldv h x1 fun v14 => callG G_flow_set_has h [v14, (.rv (.int .i64 n13))] (fun r15 h17 => asBool r15 fun b19 => bsp ((!b19)) (ldv h17 x3 fun v20 => callV (flow_Post_c1_G S) v20 h17 [(.rv (.int .i64 n13))] (fun r21 h23 => flow_Post_c1_p423 S k N52 M52 (x0) x1 x3 x4 x16 (x17) (x18) (h23)) (fun q22 h24 => some (.pan q22, h24))) (flow_Post_c1_p423 S k N52 M52 (x0) x1 x3 x4 x16 (x17) (x18) (h17))) (fun q16 h18 => some (.pan q16, h18))) (flow_Post_c1_p7 S k (x0) x4 (h)) := nrfl (by kernel_rfl)
theorem flow_Post_c1_p423_eq (S : List AV → Hp → Option (ARes × Hp)) (k : Nat) (N52 M52 : Nat) (x0 : Int) (x1 : AV) (x3 : AV) (x4 : AV) (x16 : AV) (x17 : Int) (x18 : Int) (h : Hp) : flow_Post_c1_p423 S k N52 M52 x0 x1 x3 x4 x16 x17 x18 h = flow_Post_c1_l52 S k N52 M52 (x0) x1 x3 x4 x16 (x17) ((wri .i64 (x18 + 1))) (h) := nrfl (by kernel_rfl)
theorem flow_Post_c1_p7_eq (S : List AV → Hp → Option (ARes × Hp)) (k : Nat) (x0 : Int) (x4 : AV) (h : Hp) : flow_Post_c1_p7 S k x0 x4 h = ldv h x4 fun v25 => bsl 1 1 [(.rv (.int .i64 0))] [(some (0, 1), (.rv (.int .i64 x0)))] h fun v26 h27 => apn 1 8 h27 v25 v26 fun v28 h29 => stv 1 h29 x4 v28 fun h30 => some (.ret undefA, h30) := nrfl (by kernel_rfl)
theorem flow_Post_c1_eq (S : List AV → Hp → Option (ARes × Hp)) (k : Nat) (x0 : Int) (x1 : AV) (x2 : AV) (x3 : AV) (x4 : AV) (h : Hp) : fnA Try.prog (flow_Post_c1_G S) flow_Post_c1_A flow_Post_c1_R k Try.f32 [(.rv (.int .i64 x0)), x1, x2, x3, x4] h = ldv h x1 fun v1 => callG G_flow_set_add h [v1, (.rv (.int .i64 x0))] (fun r2 h4 => pad x2 3 fun p6 => ldv h4 p6 fun v7 => ixa 6 v7 x0 fun p8 => pad p8 4 fun p9 => ldv h4 p9 fun v10 => lna v10 fun n11 => flow_Post_c1_l52 S k k h4.length (x0) x1 x3 x4 v10 (n11) (0) (h4)) (fun q3 h5 => some (.pan q3, h5)) := nrfl (by kernel_rfl)
theorem flow_Post_c1_good (S : List AV → Hp → Option (ARes × Hp)) (hS : GoodC Try.prog 32 (.gen S)) : Good Try.prog (flow_Post_c1_G S) := by
  intro f c hc
  unfold flow_Post_c1_G at hc
  split at hc
  · cases hc; exact hS
  · cases hc; exact good_flow_set_add
  · cases hc; exact good_flow_set_has
  · cases hc
noncomputable def GR_flow_Post_c1 : Nat → List AV → Hp → Option (ARes × Hp)
  | 0 => fun _ _ => none
  | n + 1 => fun xs h => fnA Try.prog (flow_Post_c1_G (GR_flow_Post_c1 n)) flow_Post_c1_A flow_Post_c1_R big Try.f32 xs h
noncomputable def G_flow_Post_c1 : List AV → Hp → Option (ARes × Hp) := GR_flow_Post_c1 big
theorem GR_flow_Post_c1_succ (n : Nat) (xs : List AV) (h : Hp) : GR_flow_Post_c1 (n + 1) xs h = fnA Try.prog (flow_Post_c1_G (GR_flow_Post_c1 n)) flow_Post_c1_A flow_Post_c1_R big Try.f32 xs h := nrfl rfl
theorem goodR_flow_Post_c1 : ∀ n, GoodC Try.prog 32 (.gen (GR_flow_Post_c1 n))
  | 0 => ⟨Go.Proofs.enters_of (by kernel_rfl : Try.prog.funcs[32]? = some Try.f32) rfl rfl, fun _ _ _ _ h => by cases h⟩
  | n + 1 => goodG mixed (flow_Post_c1_good _ (goodR_flow_Post_c1 n)) (by kernel_rfl : Try.prog.funcs[32]? = some Try.f32) rfl rfl (fun xs h x e => ⟨big, e⟩)
theorem good_flow_Post_c1 : GoodC Try.prog 32 (.gen G_flow_Post_c1) := goodR_flow_Post_c1 big

/-! gantry/flow.Post -/
abbrev id_flow_Post : FuncId := 8
noncomputable def flow_Post_G : FuncId → Option Callee := fun f => match f with
  | 31 => some (.pure F_ssa_Flow)
  | 32 => some (.gen G_flow_Post_c1)
  | _ => none
def flow_Post_A : Ann := []
def flow_Post_R : List Nat := []
noncomputable def flow_Post_c (k pos : Nat) : St → Cont (ARes × Hp) → Option (ARes × Hp) := acode Try.prog flow_Post_G flow_Post_A flow_Post_R k (cdAt (pathOf pos) (bodyOf Try.f8)) pos
theorem flow_Post_eq (k : Nat) (x0 : AV) (h : Hp) : fnA Try.prog flow_Post_G flow_Post_A flow_Post_R k Try.f8 [x0] h = nwc 1 (vcells x0) h fun p1 h2 => ldg 4 h2 p1 fun v3 => callP F_ssa_Flow h2 [v3] (fun r4 => asInt .i64 r4 fun n6 => bsp ((n6 != 0)) (some (.ret (.tuple [(.rv .nils), (.rv (.int .i64 n6))]), h2)) (pad p1 3 fun p7 => ldv h2 p7 fun v8 => lna v8 fun n9 => mks 1 8 [(.rv (.int .i64 0))] h2 n9 fun v10 h11 => bld [(.rv .nils), (.rv .nils)] [(some (1, 1), v10)] fun v12 => nwc 1 (vcells v12) h11 fun p13 h14 => nwc 1 (some [(.rv .nilp)]) h14 fun p15 h16 => stv 1 h16 p15 p13 fun h17 => nwc 1 (some [(.rv .nils)]) h17 fun p18 h19 => nwc 1 (some [(.rv .nilf)]) h19 fun p20 h21 => stv 1 h21 p20 (.func id_flow_Post_c1 [] [p15, p1, p20, p18]) fun h22 => ldv h22 p20 fun v23 => callV flow_Post_G v23 h22 [(.rv (.int .i64 0))] (fun r24 h26 => ldv h26 p18 fun v28 => some (.ret (.tuple [v28, (.rv (.int .i64 0))]), h26)) (fun q25 h27 => some (.pan q25, h27)))) (fun q5 => some (.pan q5, h2)) := nrfl (by kernel_rfl)
theorem flow_Post_good : Good Try.prog flow_Post_G := by
  intro f c hc
  unfold flow_Post_G at hc
  split at hc
  · cases hc; exact good_ssa_Flow
  · cases hc; exact good_flow_Post_c1
  · cases hc
noncomputable def F_flow_Post : List RV → Option Res := fun rs => pureR (fnA Try.prog flow_Post_G flow_Post_A flow_Post_R big Try.f8 (rs.map .rv) [])
theorem good_flow_Post : GoodC Try.prog 8 (.pure F_flow_Post) := goodP mixed flow_Post_good (by kernel_rfl : Try.prog.funcs[8]? = some Try.f8) rfl rfl (fun rs r h => ⟨big, h⟩)
end Go.Proofs.Ytknphnmhjmejaaa
