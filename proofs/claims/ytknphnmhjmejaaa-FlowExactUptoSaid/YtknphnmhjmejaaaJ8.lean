/- Joined texts: Gt, Gb1, Gb2, Sort, SortL, Gb3, Gb4, Gb5. No conditions but those of each. -/
import Derived.Test.YtknphnmhjmejaaaJ7
import Derived.Test.YtknphnmhjmejaaaJ6
import Derived.Shelf.Sort.Plain
import Derived.Shelf.Slices.In.SortNone
/- The places and the unfolding equations of these functions (printed by gen.py of this repo): no conditions. -/
namespace Go.Proofs.Ytknphnmhjmejaaa
set_option linter.unusedVariables false
set_option maxRecDepth 100000

/-! (*gantry/ssa.Tree).Over -/
abbrev id_ssa_Tree_Over : FuncId := 47
noncomputable def ssa_Tree_Over_G : FuncId → Option Callee := fun f => match f with
  | _ => none
def ssa_Tree_Over_A : Ann := [(7, [6])]
def ssa_Tree_Over_R : List Nat := []
noncomputable def ssa_Tree_Over_c (k pos : Nat) : St → Cont (ARes × Hp) → Option (ARes × Hp) := acode Try.prog ssa_Tree_Over_G ssa_Tree_Over_A ssa_Tree_Over_R k (cdAt (pathOf pos) (bodyOf Try.f47)) pos
def ssa_Tree_Over_T7 (x6 : Bool) : List AV := an 6 ((.rv (.bool x6)) :: an 32 ([]))
noncomputable def ssa_Tree_Over_p7 (k : Nat) (x6 : Bool) (h : Hp) : Option (ARes × Hp) := pnt (ssa_Tree_Over_c k 7) ⟨ssa_Tree_Over_T7 x6, h⟩ (finA Try.prog Try.f47)
theorem ssa_Tree_Over_p7_eq (k : Nat) (x6 : Bool) (h : Hp) : ssa_Tree_Over_p7 k x6 h = some (.ret (.rv (.bool x6)), h) := nrfl (by kernel_rfl)
theorem ssa_Tree_Over_eq (k : Nat) (x0 : AV) (x1 : Int) (x2 : Int) (h : Hp) : fnA Try.prog ssa_Tree_Over_G ssa_Tree_Over_A ssa_Tree_Over_R k Try.f47 [x0, (.rv (.int .i64 x1)), (.rv (.int .i64 x2))] h = nck x0 fun v1 => pad v1 0 fun p2 => ldv h p2 fun v3 => ixa 1 v3 x1 fun p4 => ldi .i64 h p4 fun n5 => nck x0 fun v6 => pad v6 0 fun p7 => ldv h p7 fun v8 => ixa 1 v8 x2 fun p9 => ldi .i64 h p9 fun n10 => bsp ((decide (n5 ≤ n10))) (nck x0 fun v11 => pad v11 1 fun p12 => ldv h p12 fun v13 => ixa 1 v13 x2 fun p14 => ldi .i64 h p14 fun n15 => nck x0 fun v16 => pad v16 1 fun p17 => ldv h p17 fun v18 => ixa 1 v18 x1 fun p19 => ldi .i64 h p19 fun n20 => ssa_Tree_Over_p7 k ((decide (n15 ≤ n20))) (h)) (ssa_Tree_Over_p7 k (false) (h)) := nrfl (by kernel_rfl)
theorem ssa_Tree_Over_good : Good Try.prog ssa_Tree_Over_G := fun f c hc => by cases hc
noncomputable def G_ssa_Tree_Over : List AV → Hp → Option (ARes × Hp) := fun xs h => fnA Try.prog ssa_Tree_Over_G ssa_Tree_Over_A ssa_Tree_Over_R big Try.f47 xs h
theorem good_ssa_Tree_Over : GoodC Try.prog 47 (.gen G_ssa_Tree_Over) := goodG mixed ssa_Tree_Over_good (by kernel_rfl : Try.prog.funcs[47]? = some Try.f47) rfl rfl (fun xs h x e => ⟨big, e⟩)

/-! gantry/flow.Loops closure 1 -/
abbrev id_flow_Loops_c1 : FuncId := 46
noncomputable def flow_Loops_c1_G : FuncId → Option Callee := fun f => match f with
  | 47 => some (.gen G_ssa_Tree_Over)
  | _ => none
def flow_Loops_c1_A : Ann := []
def flow_Loops_c1_R : List Nat := []
noncomputable def flow_Loops_c1_c (k pos : Nat) : St → Cont (ARes × Hp) → Option (ARes × Hp) := acode Try.prog flow_Loops_c1_G flow_Loops_c1_A flow_Loops_c1_R k (cdAt (pathOf pos) (bodyOf Try.f46)) pos
theorem flow_Loops_c1_eq (k : Nat) (x0 : Int) (x1 : AV) (x2 : AV) (h : Hp) : fnA Try.prog flow_Loops_c1_G flow_Loops_c1_A flow_Loops_c1_R k Try.f46 [(.rv (.int .i64 x0)), x1, x2] h = ldv h x1 fun v1 => ldi .i64 h x2 fun n2 => callG G_ssa_Tree_Over h [v1, (.rv (.int .i64 n2)), (.rv (.int .i64 x0))] (fun r3 h5 => asBool r3 fun b7 => some (.ret (.rv (.bool b7)), h5)) (fun q4 h6 => some (.pan q4, h6)) := nrfl (by kernel_rfl)
theorem flow_Loops_c1_good : Good Try.prog flow_Loops_c1_G := by
  intro f c hc
  unfold flow_Loops_c1_G at hc
  split at hc
  · cases hc; exact good_ssa_Tree_Over
  · cases hc
noncomputable def G_flow_Loops_c1 : List AV → Hp → Option (ARes × Hp) := fun xs h => fnA Try.prog flow_Loops_c1_G flow_Loops_c1_A flow_Loops_c1_R big Try.f46 xs h
theorem good_flow_Loops_c1 : GoodC Try.prog 46 (.gen G_flow_Loops_c1) := goodG mixed flow_Loops_c1_good (by kernel_rfl : Try.prog.funcs[46]? = some Try.f46) rfl rfl (fun xs h x e => ⟨big, e⟩)
end Go.Proofs.Ytknphnmhjmejaaa
/- The places and the unfolding equations of these functions (printed by gen.py of this repo): no conditions. -/
namespace Go.Proofs.Ytknphnmhjmejaaa
set_option linter.unusedVariables false
set_option maxRecDepth 100000

/-! gantry/ssa.must -/
abbrev id_ssa_must : FuncId := 72
noncomputable def ssa_must_G : FuncId → Option Callee := fun f => match f with
  | _ => none
def ssa_must_A : Ann := []
def ssa_must_R : List Nat := []
noncomputable def ssa_must_c (k pos : Nat) : St → Cont (ARes × Hp) → Option (ARes × Hp) := acode Try.prog ssa_must_G ssa_must_A ssa_must_R k (cdAt (pathOf pos) (bodyOf Try.f72)) pos
theorem ssa_must_eq (k : Nat) (x0 : Bool) (x1 : Int) (h : Hp) : fnA Try.prog ssa_must_G ssa_must_A ssa_must_R k Try.f72 [(.rv (.bool x0)), (.rv (.int .i64 x1))] h = bsp ((!x0)) (pnc (mkI 32 (.rv (.int .i64 x1))) fun v1 => some (.pan v1, h)) (some (.ret undefA, h)) := nrfl (by kernel_rfl)
theorem ssa_must_good : Good Try.prog ssa_must_G := fun f c hc => by cases hc
noncomputable def F_ssa_must : List RV → Option Res := fun rs => pureR (fnA Try.prog ssa_must_G ssa_must_A ssa_must_R big Try.f72 (rs.map .rv) [])
theorem good_ssa_must : GoodC Try.prog 72 (.pure F_ssa_must) := goodP mixed ssa_must_good (by kernel_rfl : Try.prog.funcs[72]? = some Try.f72) rfl rfl (fun rs r h => ⟨big, h⟩)

/-! (*gantry/ssa.checker).isBlock -/
abbrev id_ssa_checker_isBlock : FuncId := 74
noncomputable def ssa_checker_isBlock_G : FuncId → Option Callee := fun f => match f with
  | _ => none
def ssa_checker_isBlock_A : Ann := [(7, [4])]
def ssa_checker_isBlock_R : List Nat := []
noncomputable def ssa_checker_isBlock_c (k pos : Nat) : St → Cont (ARes × Hp) → Option (ARes × Hp) := acode Try.prog ssa_checker_isBlock_G ssa_checker_isBlock_A ssa_checker_isBlock_R k (cdAt (pathOf pos) (bodyOf Try.f74)) pos
def ssa_checker_isBlock_T7 (x4 : Bool) : List AV := an 4 ((.rv (.bool x4)) :: an 24 ([]))
noncomputable def ssa_checker_isBlock_p7 (k : Nat) (x4 : Bool) (h : Hp) : Option (ARes × Hp) := pnt (ssa_checker_isBlock_c k 7) ⟨ssa_checker_isBlock_T7 x4, h⟩ (finA Try.prog Try.f74)
theorem ssa_checker_isBlock_p7_eq (k : Nat) (x4 : Bool) (h : Hp) : ssa_checker_isBlock_p7 k x4 h = some (.ret (.rv (.bool x4)), h) := nrfl (by kernel_rfl)
theorem ssa_checker_isBlock_eq (k : Nat) (x0 : AV) (x1 : Int) (h : Hp) : fnA Try.prog ssa_checker_isBlock_G ssa_checker_isBlock_A ssa_checker_isBlock_R k Try.f74 [x0, (.rv (.int .i64 x1))] h = bsp ((decide (x1 ≥ 0))) (nck x0 fun v1 => pad v1 2 fun p2 => pad p2 3 fun p3 => ldv h p3 fun v4 => lna v4 fun n5 => bsp ((decide (x1 < n5))) (nck x0 fun v6 => pad v6 2 fun p7 => pad p7 3 fun p8 => ldv h p8 fun v9 => ixa 6 v9 x1 fun p10 => pad p10 0 fun p11 => ldi .i64 h p11 fun n12 => ssa_checker_isBlock_p7 k ((n12 != 0)) (h)) (ssa_checker_isBlock_p7 k (false) (h))) (ssa_checker_isBlock_p7 k (false) (h)) := nrfl (by kernel_rfl)
theorem ssa_checker_isBlock_good : Good Try.prog ssa_checker_isBlock_G := fun f c hc => by cases hc
noncomputable def G_ssa_checker_isBlock : List AV → Hp → Option (ARes × Hp) := fun xs h => fnA Try.prog ssa_checker_isBlock_G ssa_checker_isBlock_A ssa_checker_isBlock_R big Try.f74 xs h
theorem good_ssa_checker_isBlock : GoodC Try.prog 74 (.gen G_ssa_checker_isBlock) := goodG mixed ssa_checker_isBlock_good (by kernel_rfl : Try.prog.funcs[74]? = some Try.f74) rfl rfl (fun xs h x e => ⟨big, e⟩)

/-! gantry/ssa.all closure 1 -/
abbrev id_ssa_all_c1 : FuncId := 80
noncomputable def ssa_all_c1_G : FuncId → Option Callee := fun f => match f with
  | 74 => some (.gen G_ssa_checker_isBlock)
  | _ => none
def ssa_all_c1_A : Ann := []
def ssa_all_c1_R : List Nat := []
noncomputable def ssa_all_c1_c (k pos : Nat) : St → Cont (ARes × Hp) → Option (ARes × Hp) := acode Try.prog ssa_all_c1_G ssa_all_c1_A ssa_all_c1_R k (cdAt (pathOf pos) (bodyOf Try.f80)) pos
theorem ssa_all_c1_eq (k : Nat) (x0 : Int) (x1 : AV) (h : Hp) : fnA Try.prog ssa_all_c1_G ssa_all_c1_A ssa_all_c1_R k Try.f80 [(.rv (.int .i64 x0)), x1] h = ldv h x1 fun v1 => callV ssa_all_c1_G v1 h [(.rv (.int .i64 x0))] (fun r2 h4 => asBool r2 fun b6 => some (.ret (.rv (.bool (!b6))), h4)) (fun q3 h5 => some (.pan q3, h5)) := nrfl (by kernel_rfl)
theorem ssa_all_c1_good : Good Try.prog ssa_all_c1_G := by
  intro f c hc
  unfold ssa_all_c1_G at hc
  split at hc
  · cases hc; exact good_ssa_checker_isBlock
  · cases hc
noncomputable def G_ssa_all_c1 : List AV → Hp → Option (ARes × Hp) := fun xs h => fnA Try.prog ssa_all_c1_G ssa_all_c1_A ssa_all_c1_R big Try.f80 xs h
theorem good_ssa_all_c1 : GoodC Try.prog 80 (.gen G_ssa_all_c1) := goodG mixed ssa_all_c1_good (by kernel_rfl : Try.prog.funcs[80]? = some Try.f80) rfl rfl (fun xs h x e => ⟨big, e⟩)

/-! slices.IndexFunc[[]int,int] -/
abbrev id_slices_IndexFunc_int : FuncId := 65
noncomputable def slices_IndexFunc_int_G : FuncId → Option Callee := fun f => match f with
  | 46 => some (.gen G_flow_Loops_c1)
  | 80 => some (.gen G_ssa_all_c1)
  | _ => none
def slices_IndexFunc_int_A : Ann := [(7, []), (52, [0, 1, 7, 8])]
def slices_IndexFunc_int_R : List Nat := []
noncomputable def slices_IndexFunc_int_c (k pos : Nat) : St → Cont (ARes × Hp) → Option (ARes × Hp) := acode Try.prog slices_IndexFunc_int_G slices_IndexFunc_int_A slices_IndexFunc_int_R k (cdAt (pathOf pos) (bodyOf Try.f65)) pos
noncomputable def slices_IndexFunc_int_K0 (k : Nat) : Cont (ARes × Hp) := seqK (slices_IndexFunc_int_c k 7) true (clrA slices_IndexFunc_int_A 7) (finA Try.prog Try.f65)
noncomputable def slices_IndexFunc_int_K1 (k : Nat) : Cont (ARes × Hp) := blkK 0 (slices_IndexFunc_int_K0 k)
def slices_IndexFunc_int_T52 (x0 : AV) (x1 : AV) (x7 : Int) (x8 : Int) : List AV := x0 :: x1 :: an 5 ((.rv (.int .i64 x7)) :: (.rv (.int .i64 x8)) :: an 10 ([]))
noncomputable def slices_IndexFunc_int_l52 (k : Nat) (N52 M52 : Nat) (x0 : AV) (x1 : AV) (x7 : Int) (x8 : Int) (h : Hp) : Option (ARes × Hp) := aloop (slices_IndexFunc_int_c k 52) (clrA slices_IndexFunc_int_A 52) (trimOf slices_IndexFunc_int_R 52) M52 N52 ⟨slices_IndexFunc_int_T52 x0 x1 x7 x8, h⟩ (slices_IndexFunc_int_K1 k)
def slices_IndexFunc_int_T7  : List AV := an 19 ([])
noncomputable def slices_IndexFunc_int_p7 (k : Nat)  (h : Hp) : Option (ARes × Hp) := pnt (slices_IndexFunc_int_c k 7) ⟨slices_IndexFunc_int_T7 , h⟩ (finA Try.prog Try.f65)
theorem slices_IndexFunc_int_l52_eq (k : Nat) (N52 M52 : Nat) (x0 : AV) (x1 : AV) (x7 : Int) (x8 : Int) (h : Hp) : slices_IndexFunc_int_l52 k (N52 + 1) M52 x0 x1 x7 x8 h = bsp ((decide (x8 < x7))) (ixa 1 x0 x8 fun p2 => ldi .i64 h p2 fun n3 => callV slices_IndexFunc_int_G x1 h [(.rv (.int .i64 n3))] (fun r4 h6 => asBool r4 fun b8 => bsp (b8) (some (.ret (.rv (.int .i64 x8)), h6)) (slices_IndexFunc_int_l52 k N52 M52 x0 x1 (x7) ((wri .i64 (x8 + 1))) (h6))) (fun q5 h7 => some (.pan q5, h7))) (slices_IndexFunc_int_p7 k  (h)) := nrfl (by kernel_rfl)
theorem slices_IndexFunc_int_p7_eq (k : Nat)  (h : Hp) : slices_IndexFunc_int_p7 k  h = some (.ret (.rv (.int .i64 (-1))), h) := nrfl (by kernel_rfl)
theorem slices_IndexFunc_int_eq (k : Nat) (x0 : AV) (x1 : AV) (h : Hp) : fnA Try.prog slices_IndexFunc_int_G slices_IndexFunc_int_A slices_IndexFunc_int_R k Try.f65 [x0, x1] h = lna x0 fun n1 => slices_IndexFunc_int_l52 k k h.length x0 x1 (n1) (0) (h) := nrfl (by kernel_rfl)
theorem slices_IndexFunc_int_good : Good Try.prog slices_IndexFunc_int_G := by
  intro f c hc
  unfold slices_IndexFunc_int_G at hc
  split at hc
  · cases hc; exact good_flow_Loops_c1
  · cases hc; exact good_ssa_all_c1
  · cases hc
noncomputable def G_slices_IndexFunc_int : List AV → Hp → Option (ARes × Hp) := fun xs h => fnA Try.prog slices_IndexFunc_int_G slices_IndexFunc_int_A slices_IndexFunc_int_R big Try.f65 xs h
theorem good_slices_IndexFunc_int : GoodC Try.prog 65 (.gen G_slices_IndexFunc_int) := goodG mixed slices_IndexFunc_int_good (by kernel_rfl : Try.prog.funcs[65]? = some Try.f65) rfl rfl (fun xs h x e => ⟨big, e⟩)

/-! slices.ContainsFunc[[]int,int] -/
abbrev id_slices_ContainsFunc_int : FuncId := 45
noncomputable def slices_ContainsFunc_int_G : FuncId → Option Callee := fun f => match f with
  | 65 => some (.gen G_slices_IndexFunc_int)
  | _ => none
def slices_ContainsFunc_int_A : Ann := []
def slices_ContainsFunc_int_R : List Nat := []
noncomputable def slices_ContainsFunc_int_c (k pos : Nat) : St → Cont (ARes × Hp) → Option (ARes × Hp) := acode Try.prog slices_ContainsFunc_int_G slices_ContainsFunc_int_A slices_ContainsFunc_int_R k (cdAt (pathOf pos) (bodyOf Try.f45)) pos
theorem slices_ContainsFunc_int_eq (k : Nat) (x0 : AV) (x1 : AV) (h : Hp) : fnA Try.prog slices_ContainsFunc_int_G slices_ContainsFunc_int_A slices_ContainsFunc_int_R k Try.f45 [x0, x1] h = callG G_slices_IndexFunc_int h [x0, x1] (fun r1 h3 => asInt .i64 r1 fun n5 => some (.ret (.rv (.bool (decide (n5 ≥ 0)))), h3)) (fun q2 h4 => some (.pan q2, h4)) := nrfl (by kernel_rfl)
theorem slices_ContainsFunc_int_good : Good Try.prog slices_ContainsFunc_int_G := by
  intro f c hc
  unfold slices_ContainsFunc_int_G at hc
  split at hc
  · cases hc; exact good_slices_IndexFunc_int
  · cases hc
noncomputable def G_slices_ContainsFunc_int : List AV → Hp → Option (ARes × Hp) := fun xs h => fnA Try.prog slices_ContainsFunc_int_G slices_ContainsFunc_int_A slices_ContainsFunc_int_R big Try.f45 xs h
theorem good_slices_ContainsFunc_int : GoodC Try.prog 45 (.gen G_slices_ContainsFunc_int) := goodG mixed slices_ContainsFunc_int_good (by kernel_rfl : Try.prog.funcs[45]? = some Try.f45) rfl rfl (fun xs h x e => ⟨big, e⟩)

/-! gantry/ssa.all -/
abbrev id_ssa_all : FuncId := 73
noncomputable def ssa_all_G : FuncId → Option Callee := fun f => match f with
  | 45 => some (.gen G_slices_ContainsFunc_int)
  | _ => none
def ssa_all_A : Ann := []
def ssa_all_R : List Nat := []
noncomputable def ssa_all_c (k pos : Nat) : St → Cont (ARes × Hp) → Option (ARes × Hp) := acode Try.prog ssa_all_G ssa_all_A ssa_all_R k (cdAt (pathOf pos) (bodyOf Try.f73)) pos
theorem ssa_all_eq (k : Nat) (x0 : AV) (x1 : AV) (h : Hp) : fnA Try.prog ssa_all_G ssa_all_A ssa_all_R k Try.f73 [x0, x1] h = nwc 1 (vcells x1) h fun p1 h2 => callG G_slices_ContainsFunc_int h2 [x0, (.func id_ssa_all_c1 [] [p1])] (fun r3 h5 => asBool r3 fun b7 => some (.ret (.rv (.bool (!b7))), h5)) (fun q4 h6 => some (.pan q4, h6)) := nrfl (by kernel_rfl)
theorem ssa_all_good : Good Try.prog ssa_all_G := by
  intro f c hc
  unfold ssa_all_G at hc
  split at hc
  · cases hc; exact good_slices_ContainsFunc_int
  · cases hc
noncomputable def G_ssa_all : List AV → Hp → Option (ARes × Hp) := fun xs h => fnA Try.prog ssa_all_G ssa_all_A ssa_all_R big Try.f73 xs h
theorem good_ssa_all : GoodC Try.prog 73 (.gen G_ssa_all) := goodG mixed ssa_all_good (by kernel_rfl : Try.prog.funcs[73]? = some Try.f73) rfl rfl (fun xs h x e => ⟨big, e⟩)
end Go.Proofs.Ytknphnmhjmejaaa
/- The places and the unfolding equations of these functions (printed by gen.py of this repo): no conditions. -/
namespace Go.Proofs.Ytknphnmhjmejaaa
set_option linter.unusedVariables false
set_option maxRecDepth 100000

/-! (*gantry/ssa.checker).shape -/
abbrev id_ssa_checker_shape : FuncId := 57
noncomputable def ssa_checker_shape_G : FuncId → Option Callee := fun f => match f with
  | 72 => some (.pure F_ssa_must)
  | 73 => some (.gen G_ssa_all)
  | _ => none
def ssa_checker_shape_A : Ann := [(3, [0]), (28, [0, 25, 26, 27]), (231, [0, 25, 26, 27]), (1843, [0, 3, 25, 26, 27]), (3687, [0, 3, 25, 26, 27])]
def ssa_checker_shape_R : List Nat := []
noncomputable def ssa_checker_shape_c (k pos : Nat) : St → Cont (ARes × Hp) → Option (ARes × Hp) := acode Try.prog ssa_checker_shape_G ssa_checker_shape_A ssa_checker_shape_R k (cdAt (pathOf pos) (bodyOf Try.f57)) pos
noncomputable def ssa_checker_shape_K0 (k : Nat) : Cont (ARes × Hp) := blkK 0 (finA Try.prog Try.f57)
noncomputable def ssa_checker_shape_K1 (k : Nat) (N28 M28 : Nat) : Cont (ARes × Hp) := itK (aloop (ssa_checker_shape_c k 28) (clrA ssa_checker_shape_A 28) (trimOf ssa_checker_shape_R 28) M28 N28) (clrA ssa_checker_shape_A 28) (trimOf ssa_checker_shape_R 28) M28 (ssa_checker_shape_K0 k)
noncomputable def ssa_checker_shape_K2 (k : Nat) (N28 M28 : Nat) : Cont (ARes × Hp) := seqK (ssa_checker_shape_c k 231) true (clrA ssa_checker_shape_A 231) (ssa_checker_shape_K1 k N28 M28)
noncomputable def ssa_checker_shape_K3 (k : Nat) (N28 M28 : Nat) : Cont (ARes × Hp) := blkK 1 (ssa_checker_shape_K2 k N28 M28)
def ssa_checker_shape_T3 (x0 : AV) : List AV := x0 :: an 67 ([])
noncomputable def ssa_checker_shape_p3 (k : Nat) (x0 : AV) (h : Hp) : Option (ARes × Hp) := pnt (ssa_checker_shape_c k 3) ⟨ssa_checker_shape_T3 x0, h⟩ (finA Try.prog Try.f57)
def ssa_checker_shape_T28 (x0 : AV) (x25 : AV) (x26 : Int) (x27 : Int) : List AV := x0 :: an 24 (x25 :: (.rv (.int .i64 x26)) :: (.rv (.int .i64 x27)) :: an 40 ([]))
noncomputable def ssa_checker_shape_l28 (k : Nat) (N28 M28 : Nat) (x0 : AV) (x25 : AV) (x26 : Int) (x27 : Int) (h : Hp) : Option (ARes × Hp) := aloop (ssa_checker_shape_c k 28) (clrA ssa_checker_shape_A 28) (trimOf ssa_checker_shape_R 28) M28 N28 ⟨ssa_checker_shape_T28 x0 x25 x26 x27, h⟩ (ssa_checker_shape_K0 k)
def ssa_checker_shape_T1843 (x0 : AV) (x3 : AV) (x25 : AV) (x26 : Int) (x27 : Int) : List AV := x0 :: an 2 (x3 :: an 21 (x25 :: (.rv (.int .i64 x26)) :: (.rv (.int .i64 x27)) :: an 40 ([])))
noncomputable def ssa_checker_shape_p1843 (k : Nat) (N28 M28 : Nat) (x0 : AV) (x3 : AV) (x25 : AV) (x26 : Int) (x27 : Int) (h : Hp) : Option (ARes × Hp) := pnt (ssa_checker_shape_c k 1843) ⟨ssa_checker_shape_T1843 x0 x3 x25 x26 x27, h⟩ (ssa_checker_shape_K3 k N28 M28)
def ssa_checker_shape_T3687 (x0 : AV) (x3 : AV) (x25 : AV) (x26 : Int) (x27 : Int) : List AV := x0 :: an 2 (x3 :: an 21 (x25 :: (.rv (.int .i64 x26)) :: (.rv (.int .i64 x27)) :: an 40 ([])))
noncomputable def ssa_checker_shape_p3687 (k : Nat) (N28 M28 : Nat) (x0 : AV) (x3 : AV) (x25 : AV) (x26 : Int) (x27 : Int) (h : Hp) : Option (ARes × Hp) := pnt (ssa_checker_shape_c k 3687) ⟨ssa_checker_shape_T3687 x0 x3 x25 x26 x27, h⟩ (ssa_checker_shape_K3 k N28 M28)
def ssa_checker_shape_T231 (x0 : AV) (x25 : AV) (x26 : Int) (x27 : Int) : List AV := x0 :: an 24 (x25 :: (.rv (.int .i64 x26)) :: (.rv (.int .i64 x27)) :: an 40 ([]))
noncomputable def ssa_checker_shape_p231 (k : Nat) (N28 M28 : Nat) (x0 : AV) (x25 : AV) (x26 : Int) (x27 : Int) (h : Hp) : Option (ARes × Hp) := pnt (ssa_checker_shape_c k 231) ⟨ssa_checker_shape_T231 x0 x25 x26 x27, h⟩ (ssa_checker_shape_K1 k N28 M28)
theorem ssa_checker_shape_p3_eq (k : Nat) (x0 : AV) (h : Hp) : ssa_checker_shape_p3 k x0 h = nck x0 fun v15 => pad v15 2 fun p16 => pad p16 3 fun p17 => ldv h p17 fun v18 => lna v18 fun n19 => ssa_checker_shape_l28 k k h.length x0 v18 (n19) (0) (h) := nrfl (by kernel_rfl)
theorem ssa_checker_shape_l28_eq (k : Nat) (N28 M28 : Nat) (x0 : AV) (x25 : AV) (x26 : Int) (x27 : Int) (h : Hp) : ssa_checker_shape_l28 k (N28 + 1) M28 x0 x25 x26 x27 h = bsp ((decide (x27 < x26))) (ixa 6 x25 x27 fun p20 => ldg 6 h p20 fun v21 => nwc 1 (some [(.rv (.int .i64 0)), (.rv (.int .i64 0)), (.rv .nils), (.rv .nils), (.rv .nils), (.rv .nils)]) h fun p22 h23 => stv 6 h23 p22 v21 fun h24 => pad p22 0 fun p25 => ldi .i64 h24 p25 fun n26 => bsp ((decide (n26 ≥ 0))) (pad p22 0 fun p27 => ldi .i64 h24 p27 fun n28 => callP F_ssa_must h24 [(.rv (.bool (decide (n28 ≤ 4)))), (.rv (.int .i64 130))] (fun r29 => ssa_checker_shape_p1843 k N28 M28 x0 p22 x25 (x26) (x27) (h24)) (fun q30 => some (.pan q30, h24))) (callP F_ssa_must h24 [(.rv (.bool false)), (.rv (.int .i64 130))] (fun r31 => ssa_checker_shape_p1843 k N28 M28 x0 p22 x25 (x26) (x27) (h24)) (fun q32 => some (.pan q32, h24)))) (some (.ret undefA, h)) := nrfl (by kernel_rfl)
theorem ssa_checker_shape_p1843_eq (k : Nat) (N28 M28 : Nat) (x0 : AV) (x3 : AV) (x25 : AV) (x26 : Int) (x27 : Int) (h : Hp) : ssa_checker_shape_p1843 k N28 M28 x0 x3 x25 x26 x27 h = pad x3 0 fun p33 => ldi .i64 h p33 fun n34 => bsp ((n34 != 0)) (callP F_ssa_must h [(.rv (.bool true)), (.rv (.int .i64 130))] (fun r35 => ssa_checker_shape_p3687 k N28 M28 x0 x3 x25 (x26) (x27) (h)) (fun q36 => some (.pan q36, h))) (pad x3 3 fun p37 => ldv h p37 fun v38 => lna v38 fun n39 => pad x3 4 fun p40 => ldv h p40 fun v41 => lna v41 fun n42 => callP F_ssa_must h [(.rv (.bool ((wri .i64 (n39 + n42)) == 0))), (.rv (.int .i64 130))] (fun r43 => ssa_checker_shape_p3687 k N28 M28 x0 x3 x25 (x26) (x27) (h)) (fun q44 => some (.pan q44, h))) := nrfl (by kernel_rfl)
theorem ssa_checker_shape_p3687_eq (k : Nat) (N28 M28 : Nat) (x0 : AV) (x3 : AV) (x25 : AV) (x26 : Int) (x27 : Int) (h : Hp) : ssa_checker_shape_p3687 k N28 M28 x0 x3 x25 x26 x27 h = pad x3 3 fun p45 => ldv h p45 fun v46 => callG G_ssa_all h [v46, (.func id_ssa_checker_isBlock [x0] [])] (fun r47 h49 => asBool r47 fun b51 => bsp (b51) (pad x3 4 fun p52 => ldv h49 p52 fun v53 => callG G_ssa_all h49 [v53, (.func id_ssa_checker_isBlock [x0] [])] (fun r54 h56 => asBool r54 fun b58 => callP F_ssa_must h56 [(.rv (.bool b58)), (.rv (.int .i64 130))] (fun r59 => ssa_checker_shape_p231 k N28 M28 x0 x25 (x26) (x27) (h56)) (fun q60 => some (.pan q60, h56))) (fun q55 h57 => some (.pan q55, h57))) (callP F_ssa_must h49 [(.rv (.bool false)), (.rv (.int .i64 130))] (fun r61 => ssa_checker_shape_p231 k N28 M28 x0 x25 (x26) (x27) (h49)) (fun q62 => some (.pan q62, h49)))) (fun q48 h50 => some (.pan q48, h50)) := nrfl (by kernel_rfl)
theorem ssa_checker_shape_p231_eq (k : Nat) (N28 M28 : Nat) (x0 : AV) (x25 : AV) (x26 : Int) (x27 : Int) (h : Hp) : ssa_checker_shape_p231 k N28 M28 x0 x25 x26 x27 h = ssa_checker_shape_l28 k N28 M28 x0 x25 (x26) ((wri .i64 (x27 + 1))) (h) := nrfl (by kernel_rfl)
theorem ssa_checker_shape_eq (k : Nat) (x0 : AV) (h : Hp) : fnA Try.prog ssa_checker_shape_G ssa_checker_shape_A ssa_checker_shape_R k Try.f57 [x0] h = nck x0 fun v1 => pad v1 2 fun p2 => pad p2 3 fun p3 => ldv h p3 fun v4 => lna v4 fun n5 => bsp ((decide (n5 ≥ 1))) (nck x0 fun v6 => pad v6 2 fun p7 => pad p7 3 fun p8 => ldv h p8 fun v9 => lna v9 fun n10 => callP F_ssa_must h [(.rv (.bool (decide (n10 ≤ 4096)))), (.rv (.int .i64 130))] (fun r11 => ssa_checker_shape_p3 k x0 (h)) (fun q12 => some (.pan q12, h))) (callP F_ssa_must h [(.rv (.bool false)), (.rv (.int .i64 130))] (fun r13 => ssa_checker_shape_p3 k x0 (h)) (fun q14 => some (.pan q14, h))) := nrfl (by kernel_rfl)
theorem ssa_checker_shape_good : Good Try.prog ssa_checker_shape_G := by
  intro f c hc
  unfold ssa_checker_shape_G at hc
  split at hc
  · cases hc; exact good_ssa_must
  · cases hc; exact good_ssa_all
  · cases hc
noncomputable def G_ssa_checker_shape : List AV → Hp → Option (ARes × Hp) := fun xs h => fnA Try.prog ssa_checker_shape_G ssa_checker_shape_A ssa_checker_shape_R big Try.f57 xs h
theorem good_ssa_checker_shape : GoodC Try.prog 57 (.gen G_ssa_checker_shape) := goodG mixed ssa_checker_shape_good (by kernel_rfl : Try.prog.funcs[57]? = some Try.f57) rfl rfl (fun xs h x e => ⟨big, e⟩)

/-! gantry/ssa.reached -/
abbrev id_ssa_reached : FuncId := 64
noncomputable def ssa_reached_G : FuncId → Option Callee := fun f => match f with
  | _ => none
def ssa_reached_A : Ann := [(63, [2]), (248, [1, 2, 3, 4])]
def ssa_reached_R : List Nat := []
noncomputable def ssa_reached_c (k pos : Nat) : St → Cont (ARes × Hp) → Option (ARes × Hp) := acode Try.prog ssa_reached_G ssa_reached_A ssa_reached_R k (cdAt (pathOf pos) (bodyOf Try.f64)) pos
noncomputable def ssa_reached_K0 (k : Nat) : Cont (ARes × Hp) := seqK (ssa_reached_c k 63) true (clrA ssa_reached_A 63) (finA Try.prog Try.f64)
noncomputable def ssa_reached_K1 (k : Nat) : Cont (ARes × Hp) := blkK 0 (ssa_reached_K0 k)
def ssa_reached_T248 (x1 : AV) (x2 : AV) (x3 : AV) (x4 : AV) : List AV := an 1 (x1 :: x2 :: x3 :: x4 :: an 75 ([]))
noncomputable def ssa_reached_l248 (k : Nat) (N248 M248 : Nat) (x1 : AV) (x2 : AV) (x3 : AV) (x4 : AV) (h : Hp) : Option (ARes × Hp) := aloop (ssa_reached_c k 248) (clrA ssa_reached_A 248) (trimOf ssa_reached_R 248) M248 N248 ⟨ssa_reached_T248 x1 x2 x3 x4, h⟩ (ssa_reached_K1 k)
def ssa_reached_T63 (x2 : AV) : List AV := an 2 (x2 :: an 77 ([]))
noncomputable def ssa_reached_p63 (k : Nat) (x2 : AV) (h : Hp) : Option (ARes × Hp) := pnt (ssa_reached_c k 63) ⟨ssa_reached_T63 x2, h⟩ (finA Try.prog Try.f64)
theorem ssa_reached_l248_eq (k : Nat) (N248 M248 : Nat) (x1 : AV) (x2 : AV) (x3 : AV) (x4 : AV) (h : Hp) : ssa_reached_l248 k (N248 + 1) M248 x1 x2 x3 x4 h = lna x4 fun n13 => bsp ((decide (n13 > 0))) (lna x4 fun n14 => ixa 2 x4 (wri .i64 (n14 - 1)) fun p15 => pad x1 3 fun p16 => ldv h p16 fun v17 => nck p15 fun v18 => pad v18 0 fun p19 => ldi .i64 h p19 fun n20 => ixa 6 v17 n20 fun p21 => pad p21 4 fun p22 => ldv h p22 fun v23 => nck p15 fun v24 => pad v24 1 fun p25 => ldi .i64 h p25 fun n26 => lna v23 fun n27 => bsp ((n26 == n27)) (nck p15 fun v28 => pad v28 0 fun p29 => ldi .i64 h p29 fun n30 => bsl 1 1 [(.rv (.int .i64 0))] [(some (0, 1), (.rv (.int .i64 n30)))] h fun v31 h32 => apn 1 8 h32 x2 v31 fun v33 h34 => lna x4 fun n35 => slc 2 h34 x4 none (some (wri .i64 (n35 - 1))) fun v36 => ssa_reached_l248 k N248 M248 x1 v33 x3 v36 (h34)) (nck p15 fun v37 => pad v37 1 fun p38 => ldi .i64 h p38 fun n39 => ixa 1 v23 n39 fun p40 => ldi .i64 h p40 fun n41 => nck p15 fun v42 => pad v42 1 fun p43 => ldi .i64 h p43 fun n44 => nck p15 fun v45 => pad v45 1 fun p46 => stv 1 h p46 (.rv (.int .i64 (wri .i64 (n44 + 1)))) fun h47 => ixa 1 x3 n41 fun p48 => ldb h47 p48 fun b49 => bsp ((!b49)) (ixa 1 x3 n41 fun p50 => stv 1 h47 p50 (.rv (.bool true)) fun h51 => bld [(.rv (.int .i64 0)), (.rv (.int .i64 0))] [(some (0, 1), (.rv (.int .i64 n41))), (some (1, 1), (.rv (.int .i64 0)))] fun v52 => bsl 2 1 [(.rv (.int .i64 0)), (.rv (.int .i64 0))] [(some (0, 2), v52)] h51 fun v53 h54 => apn 2 16 h54 x4 v53 fun v55 h56 => ssa_reached_l248 k N248 M248 x1 x2 x3 v55 (h56)) (ssa_reached_l248 k N248 M248 x1 x2 x3 x4 (h47)))) (ssa_reached_p63 k x2 (h)) := nrfl (by kernel_rfl)
theorem ssa_reached_p63_eq (k : Nat) (x2 : AV) (h : Hp) : ssa_reached_p63 k x2 h = some (.ret x2, h) := nrfl (by kernel_rfl)
theorem ssa_reached_eq (k : Nat) (x0 : AV) (h : Hp) : fnA Try.prog ssa_reached_G ssa_reached_A ssa_reached_R k Try.f64 [x0] h = nwc 1 (vcells x0) h fun p1 h2 => pad p1 3 fun p3 => ldv h2 p3 fun v4 => lna v4 fun n5 => mks 1 1 [(.rv (.bool false))] h2 n5 fun v6 h7 => bld [(.rv (.int .i64 0)), (.rv (.int .i64 0))] [(some (0, 1), (.rv (.int .i64 0))), (some (1, 1), (.rv (.int .i64 0)))] fun v8 => bsl 2 1 [(.rv (.int .i64 0)), (.rv (.int .i64 0))] [(some (0, 2), v8)] h7 fun v9 h10 => ixa 1 v6 0 fun p11 => stv 1 h10 p11 (.rv (.bool true)) fun h12 => ssa_reached_l248 k k h12.length p1 (.rv .nils) v6 v9 (h12) := nrfl (by kernel_rfl)
theorem ssa_reached_good : Good Try.prog ssa_reached_G := fun f c hc => by cases hc
noncomputable def F_ssa_reached : List RV → Option Res := fun rs => pureR (fnA Try.prog ssa_reached_G ssa_reached_A ssa_reached_R big Try.f64 (rs.map .rv) [])
theorem good_ssa_reached : GoodC Try.prog 64 (.pure F_ssa_reached) := goodP mixed ssa_reached_good (by kernel_rfl : Try.prog.funcs[64]? = some Try.f64) rfl rfl (fun rs r h => ⟨big, h⟩)

/-! slices.Clone[[]int,int] -/
abbrev id_slices_Clone_int : FuncId := 66
noncomputable def slices_Clone_int_G : FuncId → Option Callee := fun f => match f with
  | _ => none
def slices_Clone_int_A : Ann := []
def slices_Clone_int_R : List Nat := []
noncomputable def slices_Clone_int_c (k pos : Nat) : St → Cont (ARes × Hp) → Option (ARes × Hp) := acode Try.prog slices_Clone_int_G slices_Clone_int_A slices_Clone_int_R k (cdAt (pathOf pos) (bodyOf Try.f66)) pos
theorem slices_Clone_int_eq (k : Nat) (x0 : AV) (h : Hp) : fnA Try.prog slices_Clone_int_G slices_Clone_int_A slices_Clone_int_R k Try.f66 [x0] h = nilEq false 2 x0 fun b1 => bsp (b1) (some (.ret (.rv .nils), h)) (bsl 1 0 [(.rv (.int .i64 0))] [] h fun v2 h3 => apn 1 8 h3 v2 x0 fun v4 h5 => some (.ret v4, h5)) := nrfl (by kernel_rfl)
theorem slices_Clone_int_good : Good Try.prog slices_Clone_int_G := fun f c hc => by cases hc
noncomputable def G_slices_Clone_int : List AV → Hp → Option (ARes × Hp) := fun xs h => fnA Try.prog slices_Clone_int_G slices_Clone_int_A slices_Clone_int_R big Try.f66 xs h
theorem good_slices_Clone_int : GoodC Try.prog 66 (.gen G_slices_Clone_int) := goodG mixed slices_Clone_int_good (by kernel_rfl : Try.prog.funcs[66]? = some Try.f66) rfl rfl (fun xs h x e => ⟨big, e⟩)

/-! slices.Equal[[]int,int] -/
abbrev id_slices_Equal_int : FuncId := 75
noncomputable def slices_Equal_int_G : FuncId → Option Callee := fun f => match f with
  | _ => none
def slices_Equal_int_A : Ann := [(15, []), (116, [0, 1, 12, 13])]
def slices_Equal_int_R : List Nat := []
noncomputable def slices_Equal_int_c (k pos : Nat) : St → Cont (ARes × Hp) → Option (ARes × Hp) := acode Try.prog slices_Equal_int_G slices_Equal_int_A slices_Equal_int_R k (cdAt (pathOf pos) (bodyOf Try.f75)) pos
noncomputable def slices_Equal_int_K0 (k : Nat) : Cont (ARes × Hp) := seqK (slices_Equal_int_c k 15) true (clrA slices_Equal_int_A 15) (finA Try.prog Try.f75)
noncomputable def slices_Equal_int_K1 (k : Nat) : Cont (ARes × Hp) := blkK 0 (slices_Equal_int_K0 k)
def slices_Equal_int_T116 (x0 : AV) (x1 : AV) (x12 : Int) (x13 : Int) : List AV := x0 :: x1 :: an 10 ((.rv (.int .i64 x12)) :: (.rv (.int .i64 x13)) :: an 12 ([]))
noncomputable def slices_Equal_int_l116 (k : Nat) (N116 M116 : Nat) (x0 : AV) (x1 : AV) (x12 : Int) (x13 : Int) (h : Hp) : Option (ARes × Hp) := aloop (slices_Equal_int_c k 116) (clrA slices_Equal_int_A 116) (trimOf slices_Equal_int_R 116) M116 N116 ⟨slices_Equal_int_T116 x0 x1 x12 x13, h⟩ (slices_Equal_int_K1 k)
def slices_Equal_int_T15  : List AV := an 26 ([])
noncomputable def slices_Equal_int_p15 (k : Nat)  (h : Hp) : Option (ARes × Hp) := pnt (slices_Equal_int_c k 15) ⟨slices_Equal_int_T15 , h⟩ (finA Try.prog Try.f75)
theorem slices_Equal_int_l116_eq (k : Nat) (N116 M116 : Nat) (x0 : AV) (x1 : AV) (x12 : Int) (x13 : Int) (h : Hp) : slices_Equal_int_l116 k (N116 + 1) M116 x0 x1 x12 x13 h = bsp ((decide (x13 < x12))) (ixa 1 x0 x13 fun p4 => ldi .i64 h p4 fun n5 => ixa 1 x1 x13 fun p6 => ldi .i64 h p6 fun n7 => bsp ((n5 != n7)) (some (.ret (.rv (.bool false)), h)) (slices_Equal_int_l116 k N116 M116 x0 x1 (x12) ((wri .i64 (x13 + 1))) (h))) (slices_Equal_int_p15 k  (h)) := nrfl (by kernel_rfl)
theorem slices_Equal_int_p15_eq (k : Nat)  (h : Hp) : slices_Equal_int_p15 k  h = some (.ret (.rv (.bool true)), h) := nrfl (by kernel_rfl)
theorem slices_Equal_int_eq (k : Nat) (x0 : AV) (x1 : AV) (h : Hp) : fnA Try.prog slices_Equal_int_G slices_Equal_int_A slices_Equal_int_R k Try.f75 [x0, x1] h = lna x0 fun n1 => lna x1 fun n2 => bsp ((n1 != n2)) (some (.ret (.rv (.bool false)), h)) (lna x0 fun n3 => slices_Equal_int_l116 k k h.length x0 x1 (n3) (0) (h)) := nrfl (by kernel_rfl)
theorem slices_Equal_int_good : Good Try.prog slices_Equal_int_G := fun f c hc => by cases hc
noncomputable def F_slices_Equal_int : List RV → Option Res := fun rs => pureR (fnA Try.prog slices_Equal_int_G slices_Equal_int_A slices_Equal_int_R big Try.f75 (rs.map .rv) [])
theorem good_slices_Equal_int : GoodC Try.prog 75 (.pure F_slices_Equal_int) := goodP mixed slices_Equal_int_good (by kernel_rfl : Try.prog.funcs[75]? = some Try.f75) rfl rfl (fun rs r h => ⟨big, h⟩)
end Go.Proofs.Ytknphnmhjmejaaa
/-  Sorting a list of numbers, as a call of the library, on the abstract machine. No conditions. -/
namespace Go.Proofs.Ytknphnmhjmejaaa
set_option linter.unusedVariables false
open Go.Shelf Go.Sort Go.RowKit
def intOf : AV → Option Int
  | .rv (.int .i64 n) => some n
  | _ => none
def sortL (zs : List Int) : List Int := zs.mergeSort fun x y => decide (x ≤ y)
noncomputable def sortG (args : List AV) (h : Hp) : Option (ARes × Hp) :=
  match args with
  | [.rv .nils] => some (.ret undefA, h)
  | [.sl o ver 0 len] =>
    match h[o]? with
    | some ob => if ob.ver = ver ∧ ob.esz = 1 ∧ ob.cells.length = len ∧ len ≤ 140737488355328 then
        match ob.cells.mapM intOf with
        | some zs => some (.ret undefA, h.set o { ob with cells := (sortL zs).map ai })
        | none => none
      else none
    | none => none
  | _ => none
theorem mapM_intOf : ∀ {cs : List AV} {zs : List Int}, cs.mapM intOf = some zs → cs = zs.map ai
  | [], zs, h => by simp at h; subst h; rfl
  | c :: cs, zs, h => by
    simp only [List.mapM_cons] at h
    cases hc : intOf c with
    | none => rw [hc] at h; cases h
    | some n =>
      rw [hc] at h
      cases hr : cs.mapM intOf with
      | none => rw [hr] at h; cases h
      | some ns =>
        rw [hr] at h
        cases h
        rw [mapM_intOf hr]
        unfold intOf at hc
        split at hc
        · cases hc; rfl
        · cases hc
theorem sortL_length (zs : List Int) : (sortL zs).length = zs.length := by simp [sortL]
theorem heap_mapBlock (w : World) (b : Nat) (f : Array Value → Array Value) (i : Nat) : (mapBlock w b f).heap[i]? = if b = i then (w.heap[i]?).map (onCells f) else w.heap[i]? := by
  unfold mapBlock
  simp only [Array.getElem?_modify]
theorem sort_good {P : Program} {ρ : Ren} (L : Lays.n189 P ρ) (he : Ent P (ρ.f 189)) : GoodC P (ρ.f 189) (.gen sortG) := by
  refine ⟨he, fun args h r h' hk J M w cargs hr hsz hv => ?_⟩
  have one : ∀ x, args = [x] → ∃ v, cargs = #[v] ∧ V J M x v := by
    rintro x rfl
    obtain ⟨v, hv0, hV⟩ := Vs_iff.1 hv 0 x rfl
    refine ⟨v, ?_, hV⟩
    simp at hsz
    apply Array.ext_getElem?
    intro i
    cases i with
    | zero => simpa using hv0
    | succ i => simp [hsz]
  unfold sortG at hk
  split at hk
  · cases hk
    obtain ⟨v, rfl, hV⟩ := one _ rfl
    simp only [V, VR] at hV
    subst hV
    refine (Any.slices_Sort_int_none L none 0 w).mono fun e w' ⟨he, hw⟩ => ?_
    subst he; subst hw
    exact ⟨J, M, Stp.refl hr, _, rfl, by simp [V, VR, VRs]⟩
  · rename_i o ver len
    split at hk
    case h_2 => cases hk
    rename_i ob ho
    split at hk
    case isFalse => cases hk
    rename_i hc
    obtain ⟨hver, hesz, hlen, hmax⟩ := hc
    split at hk
    case h_2 => cases hk
    rename_i zs hzs
    cases hk
    have hcells := mapM_intOf hzs
    have hzl : zs.length = len := by rw [← hlen, hcells]; simp
    obtain ⟨v, rfl, hV⟩ := one _ rfl
    simp only [V] at hV
    obtain ⟨e, he, a, cap, rfl, hcap, hcase⟩ := hV
    subst hver
    by_cases hcap0 : cap = 0
    · subst hcap0
      obtain rfl : len = 0 := by omega
      obtain rfl : zs = [] := by simpa using hzl
      refine (Any.slices_Sort_int_none L (some a) 0 w).mono fun e w' ⟨he, hw⟩ => ?_
      subst he; subst hw
      have hset : h.set o { ob with cells := (sortL []).map ai } = h := by
        have : ({ ob with cells := (sortL []).map ai } : Ob) = ob := by
          cases ob
          simp only [Ob.mk.injEq, true_and]
          rw [show sortL [] = [] from by simp [sortL]]
          exact hcells.symm
        rw [this]
        obtain ⟨hlt, e⟩ := List.getElem?_eq_some_iff.1 ho
        rw [← e]
        exact List.set_getElem_self hlt
      rw [hset]
      exact ⟨J, M, Stp.refl hr, _, rfl, by simp [V, VR, VRs]⟩
    · obtain ⟨rfl, hbound⟩ := hcase.resolve_left hcap0
      obtain ⟨e', c, t, he', hes, hb, hn, hvs⟩ := hr.ob o ob ho he
      rw [he] at he'
      cases he'
      have hcz : ∀ j, j < zs.length → c[j]? = some (.int .i64 zs[j]!) := by
        intro j hj
        have hx : ob.cells[j]? = some (ai zs[j]!) := by
          rw [hcells, List.getElem?_map, List.getElem?_eq_getElem hj]
          simp [hj]
        obtain ⟨u, hu, hU⟩ := Vs_iff.1 hvs j _ hx
        rw [V_int hU] at hu
        exact hu
      have hH : Holds (Value.int .i64) w e.b 0 zs.toArray := by
        intro j hj
        have hj' : j < zs.length := by simpa using hj
        refine ⟨?_, ?_⟩
        · rw [cell_of_cells hb, Nat.zero_add, hcz j hj']
          simp
        · simp [World.frozen?, hb]
      have hbs := lt_of_cells hb
      have := Any.slices_Sort_int L e.b 0 cap zs w hH hbs (by omega)
      rw [hzl] at this
      refine this.mono fun en w' ⟨he, n, os, hw⟩ => ?_
      subst he
      have hsl := sortL_length zs
      have hheap : ∀ i, i < w.heap.size → w'.heap[i]? = if e.b = i then (w.heap[i]?).map (onCells (putCells (Value.int .i64) 0 (sortL zs).toArray)) else w.heap[i]? := by
        intro i hi
        rw [hw, heap_grow_old _ _ (by simpa [Sort.ahead] using hi)]
        exact heap_mapBlock _ _ _ _
      have hnew : w'.heap[e.b]? = some (.cells (putCells (Value.int .i64) 0 (sortL zs).toArray c) t (0, 0)) := by
        rw [hheap _ hbs, if_pos rfl, hb]
        rfl
      refine ⟨J, M, HR.put hr ho he hnew (by simp [putCells, hn]) ?_ ?_, _, rfl, by simp [V, VR, VRs]⟩
      · refine Vs_iff.2 fun i x hx => ?_
        rw [List.getElem?_map, Option.map_eq_some_iff] at hx
        obtain ⟨z, hz, rfl⟩ := hx
        have hi : i < (sortL zs).length := (List.getElem?_eq_some_iff.1 hz).1
        have hic : c[i]? = some (.int .i64 zs[i]!) := hcz i (by omega)
        refine ⟨.int .i64 z, ?_, by simp [V, VR]⟩
        simp only [putCells, Array.getElem?_mapIdx, hic, Option.map_some]
        rw [if_pos ⟨Nat.zero_le _, by simpa using hi⟩]
        have : (sortL zs)[i]? = some z := hz
        simp [this]
      · refine ⟨?_, ?_, ?_, ?_, ?_⟩
        · rw [hw]; rfl
        · rw [hw]; rfl
        · rw [hw]; rfl
        · rw [hw]; simp [Sort.ahead]
        · intro b hb' hne
          rw [hheap b hb', if_neg fun e' => hne e'.symm]
  · cases hk
end Go.Proofs.Ytknphnmhjmejaaa
/-  The library's sort of numbers, laid at this program. No conditions. -/
namespace Go.Proofs.Ytknphnmhjmejaaa
open Go.Shelf
def sortRen : Go.Shelf.Ren := { f := fun x => match x with | 189 => 67 | 125 => 78 | 257 => 77 | 128 => 89 | 129 => 90 | 294 => 81 | 295 => 82 | 296 => 83 | 297 => 84 | 298 => 85 | 299 => 86 | 216 => 68 | 300 => 87 | 301 => 88 | 328 => 91 | 329 => 92 | 330 => 93 | 331 => 94 | 332 => 95 | 215 => 79 | 343 => 96 | n => n, t := fun x => match x with | 28 => 24 | 3 => 3 | 46 => 107 | 0 => 0 | 51 => 125 | 53 => 127 | 4 => 4 | 183 => 120 | 182 => 119 | 131 => 83 | 5 => 5 | 9 => 9 | 218 => 128 | 222 => 132 | 228 => 134 | 229 => 135 | n => n, g := fun x => x }
theorem sortLaid : Lays.n189 Try.prog sortRen := {
  mixed := by kernel_rfl
  f125 := Go.Proofs.Try.func78.trans (congrArg some (by kernel_rfl))
  f128 := Go.Proofs.Try.func89.trans (congrArg some (by kernel_rfl))
  f129 := Go.Proofs.Try.func90.trans (congrArg some (by kernel_rfl))
  f189 := Go.Proofs.Try.func67.trans (congrArg some (by kernel_rfl))
  f215 := Go.Proofs.Try.func79.trans (congrArg some (by kernel_rfl))
  f216 := Go.Proofs.Try.func68.trans (congrArg some (by kernel_rfl))
  f257 := Go.Proofs.Try.func77.trans (congrArg some (by kernel_rfl))
  f294 := Go.Proofs.Try.func81.trans (congrArg some (by kernel_rfl))
  f295 := Go.Proofs.Try.func82.trans (congrArg some (by kernel_rfl))
  f296 := Go.Proofs.Try.func83.trans (congrArg some (by kernel_rfl))
  f297 := Go.Proofs.Try.func84.trans (congrArg some (by kernel_rfl))
  f298 := Go.Proofs.Try.func85.trans (congrArg some (by kernel_rfl))
  f299 := Go.Proofs.Try.func86.trans (congrArg some (by kernel_rfl))
  f300 := Go.Proofs.Try.func87.trans (congrArg some (by kernel_rfl))
  f301 := Go.Proofs.Try.func88.trans (congrArg some (by kernel_rfl))
  f328 := Go.Proofs.Try.func91.trans (congrArg some (by kernel_rfl))
  f329 := Go.Proofs.Try.func92.trans (congrArg some (by kernel_rfl))
  f330 := Go.Proofs.Try.func93.trans (congrArg some (by kernel_rfl))
  f331 := Go.Proofs.Try.func94.trans (congrArg some (by kernel_rfl))
  f332 := Go.Proofs.Try.func95.trans (congrArg some (by kernel_rfl))
  f343 := Go.Proofs.Try.func96.trans (congrArg some (by kernel_rfl))
  t0 := Go.Proofs.Try.underlying0
  a0 := Go.Proofs.Try.isAgg0
  z0 := Go.Proofs.Try.sizeOf0
  v0 := Go.Proofs.Try.zeroValue0
  t3 := Go.Proofs.Try.underlying3
  a3 := Go.Proofs.Try.isAgg3
  z3 := Go.Proofs.Try.sizeOf3
  v3 := Go.Proofs.Try.zeroValue3
  t4 := Go.Proofs.Try.underlying4
  a4 := Go.Proofs.Try.isAgg4
  z4 := Go.Proofs.Try.sizeOf4
  v4 := Go.Proofs.Try.zeroValue4
  t5 := Go.Proofs.Try.underlying5
  a5 := Go.Proofs.Try.isAgg5
  z5 := Go.Proofs.Try.sizeOf5
  v5 := Go.Proofs.Try.zeroValue5
  t9 := Go.Proofs.Try.underlying9
  a9 := Go.Proofs.Try.isAgg9
  z9 := Go.Proofs.Try.sizeOf9
  v9 := Go.Proofs.Try.zeroValue9
  t28 := Go.Proofs.Try.underlying24
  a28 := Go.Proofs.Try.isAgg24
  z28 := Go.Proofs.Try.sizeOf24
  v28 := Go.Proofs.Try.zeroValue24
  t46 := Go.Proofs.Try.underlying107
  a46 := Go.Proofs.Try.isAgg107
  z46 := Go.Proofs.Try.sizeOf107
  v46 := Go.Proofs.Try.zeroValue107
  t51 := Go.Proofs.Try.underlying125
  a51 := Go.Proofs.Try.isAgg125
  z51 := Go.Proofs.Try.sizeOf125
  v51 := Go.Proofs.Try.zeroValue125
  t53 := Go.Proofs.Try.underlying127
  a53 := Go.Proofs.Try.isAgg127
  z53 := Go.Proofs.Try.sizeOf127
  v53 := Go.Proofs.Try.zeroValue127
  t131 := Go.Proofs.Try.underlying83
  a131 := Go.Proofs.Try.isAgg83
  z131 := Go.Proofs.Try.sizeOf83
  v131 := Go.Proofs.Try.zeroValue83
  t182 := Go.Proofs.Try.underlying119
  a182 := Go.Proofs.Try.isAgg119
  z182 := Go.Proofs.Try.sizeOf119
  v182 := Go.Proofs.Try.zeroValue119
  t183 := Go.Proofs.Try.underlying120
  a183 := Go.Proofs.Try.isAgg120
  z183 := Go.Proofs.Try.sizeOf120
  v183 := Go.Proofs.Try.zeroValue120
  t218 := Go.Proofs.Try.underlying128
  a218 := Go.Proofs.Try.isAgg128
  z218 := Go.Proofs.Try.sizeOf128
  v218 := Go.Proofs.Try.zeroValue128
  t222 := Go.Proofs.Try.underlying132
  a222 := Go.Proofs.Try.isAgg132
  z222 := Go.Proofs.Try.sizeOf132
  v222 := Go.Proofs.Try.zeroValue132
  t228 := Go.Proofs.Try.underlying134
  a228 := Go.Proofs.Try.isAgg134
  z228 := Go.Proofs.Try.sizeOf134
  v228 := Go.Proofs.Try.zeroValue134
  t229 := Go.Proofs.Try.underlying135
  a229 := Go.Proofs.Try.isAgg135
  z229 := Go.Proofs.Try.sizeOf135
  v229 := Go.Proofs.Try.zeroValue135 }
theorem good_slices_Sort_int : GoodC Try.prog 67 (.gen sortG) := sort_good sortLaid (Go.Proofs.enters_of (by kernel_rfl : Try.prog.funcs[67]? = some Try.f67) rfl rfl)
end Go.Proofs.Ytknphnmhjmejaaa
/- The places and the unfolding equations of these functions (printed by gen.py of this repo): no conditions. -/
namespace Go.Proofs.Ytknphnmhjmejaaa
set_option linter.unusedVariables false
set_option maxRecDepth 100000

/-! (*gantry/ssa.checker).flow -/
abbrev id_ssa_checker_flow : FuncId := 58
noncomputable def ssa_checker_flow_G : FuncId → Option Callee := fun f => match f with
  | 64 => some (.pure F_ssa_reached)
  | 66 => some (.gen G_slices_Clone_int)
  | 67 => some (.gen sortG)
  | 72 => some (.pure F_ssa_must)
  | 74 => some (.gen G_ssa_checker_isBlock)
  | 75 => some (.pure F_slices_Equal_int)
  | _ => none
def ssa_checker_flow_A : Ann := [(15, [0, 2]), (63, [0]), (116, [0, 2, 28, 29, 30]), (500, [0, 2, 76, 77, 78]), (511, [0, 11]), (935, [0, 2, 28, 29, 30]), (4084, [0, 11, 108, 109, 110]), (14951, [0, 2, 3, 4, 5, 28, 29, 30]), (32679, [0, 11, 108, 109, 110]), (239228, [0, 2, 3, 28, 29, 30, 48, 49, 50])]
def ssa_checker_flow_R : List Nat := []
noncomputable def ssa_checker_flow_c (k pos : Nat) : St → Cont (ARes × Hp) → Option (ARes × Hp) := acode Try.prog ssa_checker_flow_G ssa_checker_flow_A ssa_checker_flow_R k (cdAt (pathOf pos) (bodyOf Try.f58)) pos
noncomputable def ssa_checker_flow_K0 (k : Nat) : Cont (ARes × Hp) := seqK (ssa_checker_flow_c k 15) true (clrA ssa_checker_flow_A 15) (finA Try.prog Try.f58)
noncomputable def ssa_checker_flow_K1 (k : Nat) : Cont (ARes × Hp) := blkK 0 (ssa_checker_flow_K0 k)
noncomputable def ssa_checker_flow_K2 (k : Nat) (N116 M116 : Nat) : Cont (ARes × Hp) := itK (aloop (ssa_checker_flow_c k 116) (clrA ssa_checker_flow_A 116) (trimOf ssa_checker_flow_R 116) M116 N116) (clrA ssa_checker_flow_A 116) (trimOf ssa_checker_flow_R 116) M116 (ssa_checker_flow_K1 k)
noncomputable def ssa_checker_flow_K3 (k : Nat) (N116 M116 : Nat) : Cont (ARes × Hp) := seqK (ssa_checker_flow_c k 935) true (clrA ssa_checker_flow_A 935) (ssa_checker_flow_K2 k N116 M116)
noncomputable def ssa_checker_flow_K4 (k : Nat) (N116 M116 : Nat) : Cont (ARes × Hp) := blkK 1 (ssa_checker_flow_K3 k N116 M116)
noncomputable def ssa_checker_flow_K5 (k : Nat) (N116 M116 : Nat) : Cont (ARes × Hp) := blkK 3 (ssa_checker_flow_K4 k N116 M116)
noncomputable def ssa_checker_flow_K6 (k : Nat) : Cont (ARes × Hp) := seqK (ssa_checker_flow_c k 63) true (clrA ssa_checker_flow_A 63) (finA Try.prog Try.f58)
noncomputable def ssa_checker_flow_K7 (k : Nat) : Cont (ARes × Hp) := blkK 5 (ssa_checker_flow_K6 k)
noncomputable def ssa_checker_flow_K8 (k : Nat) : Cont (ARes × Hp) := seqK (ssa_checker_flow_c k 511) true (clrA ssa_checker_flow_A 511) (finA Try.prog Try.f58)
noncomputable def ssa_checker_flow_K9 (k : Nat) : Cont (ARes × Hp) := blkK 7 (ssa_checker_flow_K8 k)
noncomputable def ssa_checker_flow_K10 (k : Nat) (N4084 M4084 : Nat) : Cont (ARes × Hp) := itK (aloop (ssa_checker_flow_c k 4084) (clrA ssa_checker_flow_A 4084) (trimOf ssa_checker_flow_R 4084) M4084 N4084) (clrA ssa_checker_flow_A 4084) (trimOf ssa_checker_flow_R 4084) M4084 (ssa_checker_flow_K9 k)
def ssa_checker_flow_T116 (x0 : AV) (x2 : AV) (x28 : AV) (x29 : Int) (x30 : Int) : List AV := x0 :: an 1 (x2 :: an 25 (x28 :: (.rv (.int .i64 x29)) :: (.rv (.int .i64 x30)) :: an 104 ([])))
noncomputable def ssa_checker_flow_l116 (k : Nat) (N116 M116 : Nat) (x0 : AV) (x2 : AV) (x28 : AV) (x29 : Int) (x30 : Int) (h : Hp) : Option (ARes × Hp) := aloop (ssa_checker_flow_c k 116) (clrA ssa_checker_flow_A 116) (trimOf ssa_checker_flow_R 116) M116 N116 ⟨ssa_checker_flow_T116 x0 x2 x28 x29 x30, h⟩ (ssa_checker_flow_K1 k)
def ssa_checker_flow_T14951 (x0 : AV) (x2 : AV) (x3 : Int) (x4 : AV) (x5 : Int) (x28 : AV) (x29 : Int) (x30 : Int) : List AV := x0 :: an 1 (x2 :: (.rv (.int .i64 x3)) :: x4 :: (.rv (.int .i64 x5)) :: an 22 (x28 :: (.rv (.int .i64 x29)) :: (.rv (.int .i64 x30)) :: an 104 ([])))
noncomputable def ssa_checker_flow_p14951 (k : Nat) (N116 M116 : Nat) (x0 : AV) (x2 : AV) (x3 : Int) (x4 : AV) (x5 : Int) (x28 : AV) (x29 : Int) (x30 : Int) (h : Hp) : Option (ARes × Hp) := pnt (ssa_checker_flow_c k 14951) ⟨ssa_checker_flow_T14951 x0 x2 x3 x4 x5 x28 x29 x30, h⟩ (ssa_checker_flow_K4 k N116 M116)
def ssa_checker_flow_T15 (x0 : AV) (x2 : AV) : List AV := x0 :: an 1 (x2 :: an 132 ([]))
noncomputable def ssa_checker_flow_p15 (k : Nat) (x0 : AV) (x2 : AV) (h : Hp) : Option (ARes × Hp) := pnt (ssa_checker_flow_c k 15) ⟨ssa_checker_flow_T15 x0 x2, h⟩ (finA Try.prog Try.f58)
def ssa_checker_flow_T239228 (x0 : AV) (x2 : AV) (x3 : Int) (x28 : AV) (x29 : Int) (x30 : Int) (x48 : AV) (x49 : Int) (x50 : Int) : List AV := x0 :: an 1 (x2 :: (.rv (.int .i64 x3)) :: an 24 (x28 :: (.rv (.int .i64 x29)) :: (.rv (.int .i64 x30)) :: an 17 (x48 :: (.rv (.int .i64 x49)) :: (.rv (.int .i64 x50)) :: an 84 ([]))))
noncomputable def ssa_checker_flow_l239228 (k : Nat) (N116 M116 : Nat) (N239228 M239228 : Nat) (x0 : AV) (x2 : AV) (x3 : Int) (x28 : AV) (x29 : Int) (x30 : Int) (x48 : AV) (x49 : Int) (x50 : Int) (h : Hp) : Option (ARes × Hp) := aloop (ssa_checker_flow_c k 239228) (clrA ssa_checker_flow_A 239228) (trimOf ssa_checker_flow_R 239228) M239228 N239228 ⟨ssa_checker_flow_T239228 x0 x2 x3 x28 x29 x30 x48 x49 x50, h⟩ (ssa_checker_flow_K5 k N116 M116)
def ssa_checker_flow_T500 (x0 : AV) (x2 : AV) (x76 : AV) (x77 : Int) (x78 : Int) : List AV := x0 :: an 1 (x2 :: an 73 (x76 :: (.rv (.int .i64 x77)) :: (.rv (.int .i64 x78)) :: an 56 ([])))
noncomputable def ssa_checker_flow_l500 (k : Nat) (N500 M500 : Nat) (x0 : AV) (x2 : AV) (x76 : AV) (x77 : Int) (x78 : Int) (h : Hp) : Option (ARes × Hp) := aloop (ssa_checker_flow_c k 500) (clrA ssa_checker_flow_A 500) (trimOf ssa_checker_flow_R 500) M500 N500 ⟨ssa_checker_flow_T500 x0 x2 x76 x77 x78, h⟩ (ssa_checker_flow_K7 k)
def ssa_checker_flow_T935 (x0 : AV) (x2 : AV) (x28 : AV) (x29 : Int) (x30 : Int) : List AV := x0 :: an 1 (x2 :: an 25 (x28 :: (.rv (.int .i64 x29)) :: (.rv (.int .i64 x30)) :: an 104 ([])))
noncomputable def ssa_checker_flow_p935 (k : Nat) (N116 M116 : Nat) (x0 : AV) (x2 : AV) (x28 : AV) (x29 : Int) (x30 : Int) (h : Hp) : Option (ARes × Hp) := pnt (ssa_checker_flow_c k 935) ⟨ssa_checker_flow_T935 x0 x2 x28 x29 x30, h⟩ (ssa_checker_flow_K2 k N116 M116)
def ssa_checker_flow_T63 (x0 : AV) : List AV := x0 :: an 134 ([])
noncomputable def ssa_checker_flow_p63 (k : Nat) (x0 : AV) (h : Hp) : Option (ARes × Hp) := pnt (ssa_checker_flow_c k 63) ⟨ssa_checker_flow_T63 x0, h⟩ (finA Try.prog Try.f58)
def ssa_checker_flow_T4084 (x0 : AV) (x11 : Int) (x108 : AV) (x109 : Int) (x110 : Int) : List AV := x0 :: an 10 ((.rv (.int .i64 x11)) :: an 96 (x108 :: (.rv (.int .i64 x109)) :: (.rv (.int .i64 x110)) :: an 24 ([])))
noncomputable def ssa_checker_flow_l4084 (k : Nat) (N4084 M4084 : Nat) (x0 : AV) (x11 : Int) (x108 : AV) (x109 : Int) (x110 : Int) (h : Hp) : Option (ARes × Hp) := aloop (ssa_checker_flow_c k 4084) (clrA ssa_checker_flow_A 4084) (trimOf ssa_checker_flow_R 4084) M4084 N4084 ⟨ssa_checker_flow_T4084 x0 x11 x108 x109 x110, h⟩ (ssa_checker_flow_K9 k)
def ssa_checker_flow_T32679 (x0 : AV) (x11 : Int) (x108 : AV) (x109 : Int) (x110 : Int) : List AV := x0 :: an 10 ((.rv (.int .i64 x11)) :: an 96 (x108 :: (.rv (.int .i64 x109)) :: (.rv (.int .i64 x110)) :: an 24 ([])))
noncomputable def ssa_checker_flow_p32679 (k : Nat) (N4084 M4084 : Nat) (x0 : AV) (x11 : Int) (x108 : AV) (x109 : Int) (x110 : Int) (h : Hp) : Option (ARes × Hp) := pnt (ssa_checker_flow_c k 32679) ⟨ssa_checker_flow_T32679 x0 x11 x108 x109 x110, h⟩ (ssa_checker_flow_K10 k N4084 M4084)
def ssa_checker_flow_T511 (x0 : AV) (x11 : Int) : List AV := x0 :: an 10 ((.rv (.int .i64 x11)) :: an 123 ([]))
noncomputable def ssa_checker_flow_p511 (k : Nat) (x0 : AV) (x11 : Int) (h : Hp) : Option (ARes × Hp) := pnt (ssa_checker_flow_c k 511) ⟨ssa_checker_flow_T511 x0 x11, h⟩ (finA Try.prog Try.f58)
theorem ssa_checker_flow_l116_eq (k : Nat) (N116 M116 : Nat) (x0 : AV) (x2 : AV) (x28 : AV) (x29 : Int) (x30 : Int) (h : Hp) : ssa_checker_flow_l116 k (N116 + 1) M116 x0 x2 x28 x29 x30 h = bsp ((decide (x30 < x29))) (ixa 6 x28 x30 fun p20 => ldg 6 h p20 fun v21 => nwc 1 (some [(.rv (.int .i64 0)), (.rv (.int .i64 0)), (.rv .nils), (.rv .nils), (.rv .nils), (.rv .nils)]) h fun p22 h23 => stv 6 h23 p22 v21 fun h24 => pad p22 0 fun p25 => ldi .i64 h24 p25 fun n26 => bsp ((n26 == 1)) (ssa_checker_flow_p14951 k N116 M116 x0 x2 (x30) p22 (1) x28 (x29) (x30) (h24)) (bsp ((n26 == 2)) (ssa_checker_flow_p14951 k N116 M116 x0 x2 (x30) p22 (2) x28 (x29) (x30) (h24)) (ssa_checker_flow_p14951 k N116 M116 x0 x2 (x30) p22 (0) x28 (x29) (x30) (h24)))) (ssa_checker_flow_p15 k x0 x2 (h)) := nrfl (by kernel_rfl)
theorem ssa_checker_flow_p14951_eq (k : Nat) (N116 M116 : Nat) (x0 : AV) (x2 : AV) (x3 : Int) (x4 : AV) (x5 : Int) (x28 : AV) (x29 : Int) (x30 : Int) (h : Hp) : ssa_checker_flow_p14951 k N116 M116 x0 x2 x3 x4 x5 x28 x29 x30 h = pad x4 4 fun p27 => ldv h p27 fun v28 => lna v28 fun n29 => callP F_ssa_must h [(.rv (.bool (n29 == x5))), (.rv (.int .i64 131))] (fun r30 => pad x4 4 fun p32 => ldv h p32 fun v33 => lna v33 fun n34 => ssa_checker_flow_l239228 k N116 M116 k h.length x0 x2 (x3) x28 (x29) (x30) v33 (n34) (0) (h)) (fun q31 => some (.pan q31, h)) := nrfl (by kernel_rfl)
theorem ssa_checker_flow_p15_eq (k : Nat) (x0 : AV) (x2 : AV) (h : Hp) : ssa_checker_flow_p15 k x0 x2 h = ixa 1 x2 0 fun p35 => ldv h p35 fun v36 => lna v36 fun n37 => callP F_ssa_must h [(.rv (.bool (n37 == 0))), (.rv (.int .i64 131))] (fun r38 => nck x0 fun v40 => pad v40 2 fun p41 => pad p41 3 fun p42 => ldv h p42 fun v43 => lna v43 fun n44 => ssa_checker_flow_l500 k k h.length x0 x2 v43 (n44) (0) (h)) (fun q39 => some (.pan q39, h)) := nrfl (by kernel_rfl)
theorem ssa_checker_flow_l239228_eq (k : Nat) (N116 M116 : Nat) (N239228 M239228 : Nat) (x0 : AV) (x2 : AV) (x3 : Int) (x28 : AV) (x29 : Int) (x30 : Int) (x48 : AV) (x49 : Int) (x50 : Int) (h : Hp) : ssa_checker_flow_l239228 k N116 M116 (N239228 + 1) M239228 x0 x2 x3 x28 x29 x30 x48 x49 x50 h = bsp ((decide (x50 < x49))) (ixa 1 x48 x50 fun p45 => ldi .i64 h p45 fun n46 => ixa 1 x2 n46 fun p47 => ldv h p47 fun v48 => bsl 1 1 [(.rv (.int .i64 0))] [(some (0, 1), (.rv (.int .i64 x3)))] h fun v49 h50 => apn 1 8 h50 v48 v49 fun v51 h52 => ixa 1 x2 n46 fun p53 => stv 1 h52 p53 v51 fun h54 => ssa_checker_flow_l239228 k N116 M116 N239228 M239228 x0 x2 (x3) x28 (x29) (x30) x48 (x49) ((wri .i64 (x50 + 1))) (h54)) (ssa_checker_flow_p935 k N116 M116 x0 x2 x28 (x29) (x30) (h)) := nrfl (by kernel_rfl)
theorem ssa_checker_flow_l500_eq (k : Nat) (N500 M500 : Nat) (x0 : AV) (x2 : AV) (x76 : AV) (x77 : Int) (x78 : Int) (h : Hp) : ssa_checker_flow_l500 k (N500 + 1) M500 x0 x2 x76 x77 x78 h = bsp ((decide (x78 < x77))) (ixa 6 x76 x78 fun p55 => ldg 6 h p55 fun v56 => nwc 1 (some [(.rv (.int .i64 0)), (.rv (.int .i64 0)), (.rv .nils), (.rv .nils), (.rv .nils), (.rv .nils)]) h fun p57 h58 => stv 6 h58 p57 v56 fun h59 => pad p57 3 fun p60 => ldv h59 p60 fun v61 => callG G_slices_Clone_int h59 [v61] (fun r62 h64 => callG sortG h64 [r62] (fun r66 h68 => ixa 1 x2 x78 fun p70 => ldv h68 p70 fun v71 => callP F_slices_Equal_int h68 [r62, v71] (fun r72 => asBool r72 fun b74 => callP F_ssa_must h68 [(.rv (.bool b74)), (.rv (.int .i64 131))] (fun r75 => ssa_checker_flow_l500 k N500 M500 x0 x2 x76 (x77) ((wri .i64 (x78 + 1))) (h68)) (fun q76 => some (.pan q76, h68))) (fun q73 => some (.pan q73, h68))) (fun q67 h69 => some (.pan q67, h69))) (fun q63 h65 => some (.pan q63, h65))) (ssa_checker_flow_p63 k x0 (h)) := nrfl (by kernel_rfl)
theorem ssa_checker_flow_p935_eq (k : Nat) (N116 M116 : Nat) (x0 : AV) (x2 : AV) (x28 : AV) (x29 : Int) (x30 : Int) (h : Hp) : ssa_checker_flow_p935 k N116 M116 x0 x2 x28 x29 x30 h = ssa_checker_flow_l116 k N116 M116 x0 x2 x28 (x29) ((wri .i64 (x30 + 1))) (h) := nrfl (by kernel_rfl)
theorem ssa_checker_flow_p63_eq (k : Nat) (x0 : AV) (h : Hp) : ssa_checker_flow_p63 k x0 h = nck x0 fun v77 => pad v77 2 fun p78 => ldg 4 h p78 fun v79 => callP F_ssa_reached h [v79] (fun r80 => nck x0 fun v82 => pad v82 10 fun p83 => stv 1 h p83 r80 fun h84 => nck x0 fun v85 => pad v85 2 fun p86 => pad p86 3 fun p87 => ldv h84 p87 fun v88 => lna v88 fun n89 => ssa_checker_flow_l4084 k k h84.length x0 (0) v88 (n89) (0) (h84)) (fun q81 => some (.pan q81, h)) := nrfl (by kernel_rfl)
theorem ssa_checker_flow_l4084_eq (k : Nat) (N4084 M4084 : Nat) (x0 : AV) (x11 : Int) (x108 : AV) (x109 : Int) (x110 : Int) (h : Hp) : ssa_checker_flow_l4084 k (N4084 + 1) M4084 x0 x11 x108 x109 x110 h = bsp ((decide (x110 < x109))) (ixa 6 x108 x110 fun p90 => ldg 6 h p90 fun v91 => nwc 1 (some [(.rv (.int .i64 0)), (.rv (.int .i64 0)), (.rv .nils), (.rv .nils), (.rv .nils), (.rv .nils)]) h fun p92 h93 => stv 6 h93 p92 v91 fun h94 => pad p92 0 fun p95 => ldi .i64 h94 p95 fun n96 => bsp ((n96 == 0)) (ssa_checker_flow_p32679 k N4084 M4084 x0 ((wri .i64 (x11 + 1))) x108 (x109) (x110) (h94)) (ssa_checker_flow_p32679 k N4084 M4084 x0 (x11) x108 (x109) (x110) (h94))) (ssa_checker_flow_p511 k x0 (x11) (h)) := nrfl (by kernel_rfl)
theorem ssa_checker_flow_p32679_eq (k : Nat) (N4084 M4084 : Nat) (x0 : AV) (x11 : Int) (x108 : AV) (x109 : Int) (x110 : Int) (h : Hp) : ssa_checker_flow_p32679 k N4084 M4084 x0 x11 x108 x109 x110 h = ssa_checker_flow_l4084 k N4084 M4084 x0 (x11) x108 (x109) ((wri .i64 (x110 + 1))) (h) := nrfl (by kernel_rfl)
theorem ssa_checker_flow_p511_eq (k : Nat) (x0 : AV) (x11 : Int) (h : Hp) : ssa_checker_flow_p511 k x0 x11 h = nck x0 fun v97 => pad v97 10 fun p98 => ldv h p98 fun v99 => lna v99 fun n100 => nck x0 fun v101 => pad v101 2 fun p102 => pad p102 3 fun p103 => ldv h p103 fun v104 => lna v104 fun n105 => callP F_ssa_must h [(.rv (.bool ((wri .i64 (n100 + x11)) == n105))), (.rv (.int .i64 131))] (fun r106 => some (.ret undefA, h)) (fun q107 => some (.pan q107, h)) := nrfl (by kernel_rfl)
theorem ssa_checker_flow_eq (k : Nat) (x0 : AV) (h : Hp) : fnA Try.prog ssa_checker_flow_G ssa_checker_flow_A ssa_checker_flow_R k Try.f58 [x0] h = callG G_ssa_checker_isBlock h [x0, (.rv (.int .i64 0))] (fun r1 h3 => asBool r1 fun b5 => callP F_ssa_must h3 [(.rv (.bool b5)), (.rv (.int .i64 131))] (fun r6 => nck x0 fun v8 => pad v8 2 fun p9 => pad p9 3 fun p10 => ldv h3 p10 fun v11 => lna v11 fun n12 => mks 1 24 [(.rv .nils)] h3 n12 fun v13 h14 => nck x0 fun v15 => pad v15 2 fun p16 => pad p16 3 fun p17 => ldv h14 p17 fun v18 => lna v18 fun n19 => ssa_checker_flow_l116 k k h14.length x0 v13 v18 (n19) (0) (h14)) (fun q7 => some (.pan q7, h3))) (fun q2 h4 => some (.pan q2, h4)) := nrfl (by kernel_rfl)
theorem ssa_checker_flow_good : Good Try.prog ssa_checker_flow_G := by
  intro f c hc
  unfold ssa_checker_flow_G at hc
  split at hc
  · cases hc; exact good_ssa_reached
  · cases hc; exact good_slices_Clone_int
  · cases hc; exact good_slices_Sort_int
  · cases hc; exact good_ssa_must
  · cases hc; exact good_ssa_checker_isBlock
  · cases hc; exact good_slices_Equal_int
  · cases hc
noncomputable def G_ssa_checker_flow : List AV → Hp → Option (ARes × Hp) := fun xs h => fnA Try.prog ssa_checker_flow_G ssa_checker_flow_A ssa_checker_flow_R big Try.f58 xs h
theorem good_ssa_checker_flow : GoodC Try.prog 58 (.gen G_ssa_checker_flow) := goodG mixed ssa_checker_flow_good (by kernel_rfl : Try.prog.funcs[58]? = some Try.f58) rfl rfl (fun xs h x e => ⟨big, e⟩)
end Go.Proofs.Ytknphnmhjmejaaa
/- The places and the unfolding equations of these functions (printed by gen.py of this repo): no conditions. -/
namespace Go.Proofs.Ytknphnmhjmejaaa
set_option linter.unusedVariables false
set_option maxRecDepth 100000

/-! gantry/ssa.caught -/
abbrev id_ssa_caught : FuncId := 56
noncomputable def ssa_caught_G : FuncId → Option Callee := fun f => match f with
  | _ => none
def ssa_caught_A : Ann := [(31, [0, 3])]
def ssa_caught_R : List Nat := []
noncomputable def ssa_caught_c (k pos : Nat) : St → Cont (Hp) → Option (Hp) := acode Try.prog ssa_caught_G ssa_caught_A ssa_caught_R k (cdAt (pathOf pos) (bodyOf Try.f56)) pos
def ssa_caught_T31 (x0 : AV) (x3 : Int) : List AV := x0 :: an 2 ((.rv (.int .i64 x3)) :: an 15 ([]))
noncomputable def ssa_caught_p31 (k : Nat) (x0 : AV) (x3 : Int) (h : Hp) : Option (Hp) := pnt (ssa_caught_c k 31) ⟨ssa_caught_T31 x0 x3, h⟩ finE
theorem ssa_caught_p31_eq (k : Nat) (x0 : AV) (x3 : Int) (h : Hp) : ssa_caught_p31 k x0 x3 h = nck x0 fun v8 => stv 1 h v8 (.rv (.int .i64 x3)) fun h9 => some h9 := nrfl (by kernel_rfl)
theorem ssa_caught_eq (k : Nat) (pv : Option AV) (x0 : AV) (h : Hp) : fnR Try.prog ssa_caught_G ssa_caught_A ssa_caught_R k Try.f56 pv [x0] h = nilEq false 4 (recV pv) fun b1 => bsp (b1) (some h) (tasA 32 (some (.rv (.int .i64 0))) (recV pv) fun v2 => xtr v2 0 fun v3 => asInt .i64 v3 fun n4 => xtr v2 1 fun v5 => asBool v5 fun b6 => bsp ((!b6)) (pnc (recV pv) fun v7 => none) (ssa_caught_p31 k x0 (n4) (h))) := nrfl (by kernel_rfl)
theorem ssa_caught_good : Good Try.prog ssa_caught_G := fun f c hc => by cases hc
noncomputable def D_ssa_caught : Dfd := fun pv xs h => fnR Try.prog ssa_caught_G ssa_caught_A ssa_caught_R big Try.f56 pv xs h
theorem goodD_ssa_caught : GoodD Try.prog 56 D_ssa_caught := fnR_sound mixed ssa_caught_good (by kernel_rfl : Try.prog.funcs[56]? = some Try.f56) rfl rfl (fun pv xs h x e => ⟨big, e⟩)

/-! gantry/ssa.Flow -/
abbrev id_ssa_Flow : FuncId := 31
noncomputable def ssa_Flow_G : FuncId → Option Callee := fun f => match f with
  | 57 => some (.gen G_ssa_checker_shape)
  | 58 => some (.gen G_ssa_checker_flow)
  | _ => none
def ssa_Flow_A : Ann := []
def ssa_Flow_R : List Nat := []
noncomputable def ssa_Flow_c (k pos : Nat) : St → Cont (ARes × Hp) → Option (ARes × Hp) := acode Try.prog ssa_Flow_G ssa_Flow_A ssa_Flow_R k (cdAt (pathOf pos) (bodyOf Try.f31)) pos
noncomputable def ssa_Flow_D : FuncId → Option Dfd := fun f => match f with
  | 56 => some D_ssa_caught
  | _ => none
theorem ssa_Flow_gd : ∀ f D, ssa_Flow_D f = some D → GoodD Try.prog f D := by
  intro f D hD
  unfold ssa_Flow_D at hD
  split at hD
  · cases hD; exact goodD_ssa_caught
  · cases hD
theorem ssa_Flow_eq (k : Nat) (x0 : AV) (h : Hp) : fnD Try.prog ssa_Flow_G ssa_Flow_A ssa_Flow_R k ssa_Flow_D Try.f31 [x0] h = nwc 1 (vcells x0) h fun p1 h2 => nwc 1 (some [(.rv (.int .i64 0))]) h2 fun p3 h4 => ldg 4 h4 p1 fun v5 => bld [(.rv .nils), (.rv .nils), (.rv .nils), (.rv .nils), (.rv .nils), (.rv .nils), (.rv .nils), (.rv .nils), (.rv .nilp), (.rv .nils), (.rv .nils)] [(some (2, 4), v5)] fun v6 => nwc 1 (vcells v6) h4 fun p7 h8 => callG G_ssa_checker_shape h8 [p7] (fun r9 h11 => callG G_ssa_checker_flow h11 [p7] (fun r13 h15 => stv 1 h15 p3 (.rv (.int .i64 0)) fun h17 => fdk D_ssa_caught none [p3] h17 fun h18 => finR ((cellAt h18 p3 0)) h18) (fun q14 h16 => fdk D_ssa_caught (some q14) [p3] h16 fun h19 => finR ((cellAt h19 p3 0)) h19)) (fun q10 h12 => fdk D_ssa_caught (some q10) [p3] h12 fun h20 => finR ((cellAt h20 p3 0)) h20) := nrfl (by kernel_rfl)
theorem ssa_Flow_good : Good Try.prog ssa_Flow_G := by
  intro f c hc
  unfold ssa_Flow_G at hc
  split at hc
  · cases hc; exact good_ssa_checker_shape
  · cases hc; exact good_ssa_checker_flow
  · cases hc
noncomputable def F_ssa_Flow : List RV → Option Res := fun rs => pureR (fnD Try.prog ssa_Flow_G ssa_Flow_A ssa_Flow_R big ssa_Flow_D Try.f31 (rs.map .rv) [])
theorem good_ssa_Flow : GoodC Try.prog 31 (.pure F_ssa_Flow) := goodPD mixed ssa_Flow_good ssa_Flow_gd (by kernel_rfl : Try.prog.funcs[31]? = some Try.f31) rfl rfl (fun rs r h => ⟨big, h⟩)

/-! (*gantry/flow.set).has -/
abbrev id_flow_set_has : FuncId := 34
noncomputable def flow_set_has_G : FuncId → Option Callee := fun f => match f with
  | _ => none
def flow_set_has_A : Ann := [(7, [4])]
def flow_set_has_R : List Nat := []
noncomputable def flow_set_has_c (k pos : Nat) : St → Cont (ARes × Hp) → Option (ARes × Hp) := acode Try.prog flow_set_has_G flow_set_has_A flow_set_has_R k (cdAt (pathOf pos) (bodyOf Try.f34)) pos
def flow_set_has_T7 (x4 : Bool) : List AV := an 4 ((.rv (.bool x4)) :: an 30 ([]))
noncomputable def flow_set_has_p7 (k : Nat) (x4 : Bool) (h : Hp) : Option (ARes × Hp) := pnt (flow_set_has_c k 7) ⟨flow_set_has_T7 x4, h⟩ (finA Try.prog Try.f34)
theorem flow_set_has_p7_eq (k : Nat) (x4 : Bool) (h : Hp) : flow_set_has_p7 k x4 h = some (.ret (.rv (.bool x4)), h) := nrfl (by kernel_rfl)
theorem flow_set_has_eq (k : Nat) (x0 : AV) (x1 : Int) (h : Hp) : fnA Try.prog flow_set_has_G flow_set_has_A flow_set_has_R k Try.f34 [x0, (.rv (.int .i64 x1))] h = nck x0 fun v1 => pad v1 1 fun p2 => ldv h p2 fun v3 => ixa 1 v3 x1 fun p4 => ldi .i64 h p4 fun n5 => nck x0 fun v6 => pad v6 0 fun p7 => ldv h p7 fun v8 => lna v8 fun n9 => bsp ((decide (n5 < n9))) (nck x0 fun v10 => pad v10 0 fun p11 => ldv h p11 fun v12 => nck x0 fun v13 => pad v13 1 fun p14 => ldv h p14 fun v15 => ixa 1 v15 x1 fun p16 => ldi .i64 h p16 fun n17 => ixa 1 v12 n17 fun p18 => ldi .i64 h p18 fun n19 => flow_set_has_p7 k ((n19 == x1)) (h)) (flow_set_has_p7 k (false) (h)) := nrfl (by kernel_rfl)
theorem flow_set_has_good : Good Try.prog flow_set_has_G := fun f c hc => by cases hc
noncomputable def G_flow_set_has : List AV → Hp → Option (ARes × Hp) := fun xs h => fnA Try.prog flow_set_has_G flow_set_has_A flow_set_has_R big Try.f34 xs h
theorem good_flow_set_has : GoodC Try.prog 34 (.gen G_flow_set_has) := goodG mixed flow_set_has_good (by kernel_rfl : Try.prog.funcs[34]? = some Try.f34) rfl rfl (fun xs h x e => ⟨big, e⟩)

/-! (*gantry/flow.set).add -/
abbrev id_flow_set_add : FuncId := 33
noncomputable def flow_set_add_G : FuncId → Option Callee := fun f => match f with
  | 34 => some (.gen G_flow_set_has)
  | _ => none
def flow_set_add_A : Ann := []
def flow_set_add_R : List Nat := []
noncomputable def flow_set_add_c (k pos : Nat) : St → Cont (ARes × Hp) → Option (ARes × Hp) := acode Try.prog flow_set_add_G flow_set_add_A flow_set_add_R k (cdAt (pathOf pos) (bodyOf Try.f33)) pos
theorem flow_set_add_eq (k : Nat) (x0 : AV) (x1 : Int) (h : Hp) : fnA Try.prog flow_set_add_G flow_set_add_A flow_set_add_R k Try.f33 [x0, (.rv (.int .i64 x1))] h = callG G_flow_set_has h [x0, (.rv (.int .i64 x1))] (fun r1 h3 => asBool r1 fun b5 => bsp ((!b5)) (nck x0 fun v6 => pad v6 1 fun p7 => ldv h3 p7 fun v8 => nck x0 fun v9 => pad v9 0 fun p10 => ldv h3 p10 fun v11 => lna v11 fun n12 => ixa 1 v8 x1 fun p13 => stv 1 h3 p13 (.rv (.int .i64 n12)) fun h14 => nck x0 fun v15 => pad v15 0 fun p16 => ldv h14 p16 fun v17 => bsl 1 1 [(.rv (.int .i64 0))] [(some (0, 1), (.rv (.int .i64 x1)))] h14 fun v18 h19 => apn 1 8 h19 v17 v18 fun v20 h21 => nck x0 fun v22 => pad v22 0 fun p23 => stv 1 h21 p23 v20 fun h24 => some (.ret undefA, h24)) (some (.ret undefA, h3))) (fun q2 h4 => some (.pan q2, h4)) := nrfl (by kernel_rfl)
theorem flow_set_add_good : Good Try.prog flow_set_add_G := by
  intro f c hc
  unfold flow_set_add_G at hc
  split at hc
  · cases hc; exact good_flow_set_has
  · cases hc
noncomputable def G_flow_set_add : List AV → Hp → Option (ARes × Hp) := fun xs h => fnA Try.prog flow_set_add_G flow_set_add_A flow_set_add_R big Try.f33 xs h
theorem good_flow_set_add : GoodC Try.prog 33 (.gen G_flow_set_add) := goodG mixed flow_set_add_good (by kernel_rfl : Try.prog.funcs[33]? = some Try.f33) rfl rfl (fun xs h x e => ⟨big, e⟩)

/-! gantry/flow.Post closure 1 -/
abbrev id_flow_Post_c1 : FuncId := 32
noncomputable def flow_Post_c1_G (S : List AV → Hp → Option (ARes × Hp)) : FuncId → Option Callee := fun f => match f with
  | 32 => some (.gen S)
  | 33 => some (.gen G_flow_set_add)
  | 34 => some (.gen G_flow_set_has)
  | _ => none
def flow_Post_c1_A : Ann := [(7, [0, 4]), (52, [0, 1, 3, 4, 16, 17, 18]), (423, [0, 1, 3, 4, 16, 17, 18])]
def flow_Post_c1_R : List Nat := []
noncomputable def flow_Post_c1_c (S : List AV → Hp → Option (ARes × Hp)) (k pos : Nat) : St → Cont (ARes × Hp) → Option (ARes × Hp) := acode Try.prog (flow_Post_c1_G S) flow_Post_c1_A flow_Post_c1_R k (cdAt (pathOf pos) (bodyOf Try.f32)) pos
noncomputable def flow_Post_c1_K0 (S : List AV → Hp → Option (ARes × Hp)) (k : Nat) : Cont (ARes × Hp) := seqK (flow_Post_c1_c S k 7) true (clrA flow_Post_c1_A 7) (finA Try.prog Try.f32)
noncomputable def flow_Post_c1_K1 (S : List AV → Hp → Option (ARes × Hp)) (k : Nat) : Cont (ARes × Hp) := blkK 0 (flow_Post_c1_K0 S k)
noncomputable def flow_Post_c1_K2 (S : List AV → Hp → Option (ARes × Hp)) (k : Nat) (N52 M52 : Nat) : Cont (ARes × Hp) := itK (aloop (flow_Post_c1_c S k 52) (clrA flow_Post_c1_A 52) (trimOf flow_Post_c1_R 52) M52 N52) (clrA flow_Post_c1_A 52) (trimOf flow_Post_c1_R 52) M52 (flow_Post_c1_K1 S k)
def flow_Post_c1_T52 (x0 : Int) (x1 : AV) (x3 : AV) (x4 : AV) (x16 : AV) (x17 : Int) (x18 : Int) : List AV := (.rv (.int .i64 x0)) :: x1 :: an 1 (x3 :: x4 :: an 11 (x16 :: (.rv (.int .i64 x17)) :: (.rv (.int .i64 x18)) :: an 15 ([])))
noncomputable def flow_Post_c1_l52 (S : List AV → Hp → Option (ARes × Hp)) (k : Nat) (N52 M52 : Nat) (x0 : Int) (x1 : AV) (x3 : AV) (x4 : AV) (x16 : AV) (x17 : Int) (x18 : Int) (h : Hp) : Option (ARes × Hp) := aloop (flow_Post_c1_c S k 52) (clrA flow_Post_c1_A 52) (trimOf flow_Post_c1_R 52) M52 N52 ⟨flow_Post_c1_T52 x0 x1 x3 x4 x16 x17 x18, h⟩ (flow_Post_c1_K1 S k)
def flow_Post_c1_T423 (x0 : Int) (x1 : AV) (x3 : AV) (x4 : AV) (x16 : AV) (x17 : Int) (x18 : Int) : List AV := (.rv (.int .i64 x0)) :: x1 :: an 1 (x3 :: x4 :: an 11 (x16 :: (.rv (.int .i64 x17)) :: (.rv (.int .i64 x18)) :: an 15 ([])))
noncomputable def flow_Post_c1_p423 (S : List AV → Hp → Option (ARes × Hp)) (k : Nat) (N52 M52 : Nat) (x0 : Int) (x1 : AV) (x3 : AV) (x4 : AV) (x16 : AV) (x17 : Int) (x18 : Int) (h : Hp) : Option (ARes × Hp) := pnt (flow_Post_c1_c S k 423) ⟨flow_Post_c1_T423 x0 x1 x3 x4 x16 x17 x18, h⟩ (flow_Post_c1_K2 S k N52 M52)
def flow_Post_c1_T7 (x0 : Int) (x4 : AV) : List AV := (.rv (.int .i64 x0)) :: an 3 (x4 :: an 29 ([]))
noncomputable def flow_Post_c1_p7 (S : List AV → Hp → Option (ARes × Hp)) (k : Nat) (x0 : Int) (x4 : AV) (h : Hp) : Option (ARes × Hp) := pnt (flow_Post_c1_c S k 7) ⟨flow_Post_c1_T7 x0 x4, h⟩ (finA Try.prog Try.f32)
theorem flow_Post_c1_l52_eq (S : List AV → Hp → Option (ARes × Hp)) (k : Nat) (N52 M52 : Nat) (x0 : Int) (x1 : AV) (x3 : AV) (x4 : AV) (x16 : AV) (x17 : Int) (x18 : Int) (h : Hp) : flow_Post_c1_l52 S k (N52 + 1) M52 x0 x1 x3 x4 x16 x17 x18 h = bsp ((decide (x18 < x17))) (ixa 1 x16 x18 fun p12 => ldi .i64 h p12 fun n13 => ldv h x1 fun v14 => callG G_flow_set_has h [v14, (.rv (.int .i64 n13))] (fun r15 h17 => asBool r15 fun b19 => bsp ((!b19)) (ldv h17 x3 fun v20 => callV (flow_Post_c1_G S) v20 h17 [(.rv (.int .i64 n13))] (fun r21 h23 => flow_Post_c1_p423 S k N52 M52 (x0) x1 x3 x4 x16 (x17) (x18) (h23)) (fun q22 h24 => some (.pan q22, h24))) (flow_Post_c1_p423 S k N52 M52 (x0) x1 x3 x4 x16 (x17) (x18) (h17))) (fun q16 h18 => some (.pan q16, h18))) (flow_Post_c1_p7 S k (x0) x4 (h)) := nrfl (by kernel_rfl)
theorem flow_Post_c1_p423_eq (S : List AV → Hp → Option (ARes × Hp)) (k : Nat) (N52 M52 : Nat) (x0 : Int) (x1 : AV) (x3 : AV) (x4 : AV) (x16 : AV) (x17 : Int) (x18 : Int) (h : Hp) : flow_Post_c1_p423 S k N52 M52 x0 x1 x3 x4 x16 x17 x18 h = flow_Post_c1_l52 S k N52 M52 (x0) x1 x3 x4 x16 (x17) ((wri .i64 (x18 + 1))) (h) := nrfl (by kernel_rfl)
theorem flow_Post_c1_p7_eq (S : List AV → Hp → Option (ARes × Hp)) (k : Nat) (x0 : Int) (x4 : AV) (h : Hp) : flow_Post_c1_p7 S k x0 x4 h = ldv h x4 fun v25 => bsl 1 1 [(.rv (.int .i64 0))] [(some (0, 1), (.rv (.int .i64 x0)))] h fun v26 h27 => apn 1 8 h27 v25 v26 fun v28 h29 => stv 1 h29 x4 v28 fun h30 => some (.ret undefA, h30) := nrfl (by kernel_rfl)
theorem flow_Post_c1_eq (S : List AV → Hp → Option (ARes × Hp)) (k : Nat) (x0 : Int) (x1 : AV) (x2 : AV) (x3 : AV) (x4 : AV) (h : Hp) : fnA Try.prog (flow_Post_c1_G S) flow_Post_c1_A flow_Post_c1_R k Try.f32 [(.rv (.int .i64 x0)), x1, x2, x3, x4] h = ldv h x1 fun v1 => callG G_flow_set_add h [v1, (.rv (.int .i64 x0))] (fun r2 h4 => pad x2 3 fun p6 => ldv h4 p6 fun v7 => ixa 6 v7 x0 fun p8 => pad p8 4 fun p9 => ldv h4 p9 fun v10 => lna v10 fun n11 => flow_Post_c1_l52 S k k h4.length (x0) x1 x3 x4 v10 (n11) (0) (h4)) (fun q3 h5 => some (.pan q3, h5)) := nrfl (by kernel_rfl)
theorem flow_Post_c1_good (S : List AV → Hp → Option (ARes × Hp)) (hS : GoodC Try.prog 32 (.gen S)) : Good Try.prog (flow_Post_c1_G S) := by
  intro f c hc
  unfold flow_Post_c1_G at hc
  split at hc
  · cases hc; exact hS
  · cases hc; exact good_flow_set_add
  · cases hc; exact good_flow_set_has
  · cases hc
noncomputable def GR_flow_Post_c1 : Nat → List AV → Hp → Option (ARes × Hp)
  | 0 => fun _ _ => none
  | n + 1 => fun xs h => fnA Try.prog (flow_Post_c1_G (GR_flow_Post_c1 n)) flow_Post_c1_A flow_Post_c1_R big Try.f32 xs h
noncomputable def G_flow_Post_c1 : List AV → Hp → Option (ARes × Hp) := GR_flow_Post_c1 big
theorem GR_flow_Post_c1_succ (n : Nat) (xs : List AV) (h : Hp) : GR_flow_Post_c1 (n + 1) xs h = fnA Try.prog (flow_Post_c1_G (GR_flow_Post_c1 n)) flow_Post_c1_A flow_Post_c1_R big Try.f32 xs h := nrfl rfl
theorem goodR_flow_Post_c1 : ∀ n, GoodC Try.prog 32 (.gen (GR_flow_Post_c1 n))
  | 0 => ⟨Go.Proofs.enters_of (by kernel_rfl : Try.prog.funcs[32]? = some Try.f32) rfl rfl, fun _ _ _ _ h => by cases h⟩
  | n + 1 => goodG mixed (flow_Post_c1_good _ (goodR_flow_Post_c1 n)) (by kernel_rfl : Try.prog.funcs[32]? = some Try.f32) rfl rfl (fun xs h x e => ⟨big, e⟩)
theorem good_flow_Post_c1 : GoodC Try.prog 32 (.gen G_flow_Post_c1) := goodR_flow_Post_c1 big

/-! gantry/flow.Post -/
abbrev id_flow_Post : FuncId := 8
noncomputable def flow_Post_G : FuncId → Option Callee := fun f => match f with
  | 31 => some (.pure F_ssa_Flow)
  | 32 => some (.gen G_flow_Post_c1)
  | _ => none
def flow_Post_A : Ann := []
def flow_Post_R : List Nat := []
noncomputable def flow_Post_c (k pos : Nat) : St → Cont (ARes × Hp) → Option (ARes × Hp) := acode Try.prog flow_Post_G flow_Post_A flow_Post_R k (cdAt (pathOf pos) (bodyOf Try.f8)) pos
theorem flow_Post_eq (k : Nat) (x0 : AV) (h : Hp) : fnA Try.prog flow_Post_G flow_Post_A flow_Post_R k Try.f8 [x0] h = nwc 1 (vcells x0) h fun p1 h2 => ldg 4 h2 p1 fun v3 => callP F_ssa_Flow h2 [v3] (fun r4 => asInt .i64 r4 fun n6 => bsp ((n6 != 0)) (some (.ret (.tuple [(.rv .nils), (.rv (.int .i64 n6))]), h2)) (pad p1 3 fun p7 => ldv h2 p7 fun v8 => lna v8 fun n9 => mks 1 8 [(.rv (.int .i64 0))] h2 n9 fun v10 h11 => bld [(.rv .nils), (.rv .nils)] [(some (1, 1), v10)] fun v12 => nwc 1 (vcells v12) h11 fun p13 h14 => nwc 1 (some [(.rv .nilp)]) h14 fun p15 h16 => stv 1 h16 p15 p13 fun h17 => nwc 1 (some [(.rv .nils)]) h17 fun p18 h19 => nwc 1 (some [(.rv .nilf)]) h19 fun p20 h21 => stv 1 h21 p20 (.func id_flow_Post_c1 [] [p15, p1, p20, p18]) fun h22 => ldv h22 p20 fun v23 => callV flow_Post_G v23 h22 [(.rv (.int .i64 0))] (fun r24 h26 => ldv h26 p18 fun v28 => some (.ret (.tuple [v28, (.rv (.int .i64 0))]), h26)) (fun q25 h27 => some (.pan q25, h27)))) (fun q5 => some (.pan q5, h2)) := nrfl (by kernel_rfl)
theorem flow_Post_good : Good Try.prog flow_Post_G := by
  intro f c hc
  unfold flow_Post_G at hc
  split at hc
  · cases hc; exact good_ssa_Flow
  · cases hc; exact good_flow_Post_c1
  · cases hc
noncomputable def F_flow_Post : List RV → Option Res := fun rs => pureR (fnA Try.prog flow_Post_G flow_Post_A flow_Post_R big Try.f8 (rs.map .rv) [])
theorem good_flow_Post : GoodC Try.prog 8 (.pure F_flow_Post) := goodP mixed flow_Post_good (by kernel_rfl : Try.prog.funcs[8]? = some Try.f8) rfl rfl (fun rs r h => ⟨big, h⟩)
end Go.Proofs.Ytknphnmhjmejaaa
/- The places and the unfolding equations of these functions (printed by gen.py of this repo): no conditions. -/
namespace Go.Proofs.Ytknphnmhjmejaaa
set_option linter.unusedVariables false
set_option maxRecDepth 100000

/-! gantry/gantrylaw13.wakes -/
abbrev id_w13_wakes : FuncId := 14
noncomputable def w13_wakes_G : FuncId → Option Callee := fun f => match f with
  | 8 => some (.pure F_flow_Post)
  | 10 => some (.pure F_w13_num)
  | 20 => some (.pure F_r0_EqNumbers)
  | 41 => some (.pure F_w12_Small)
  | _ => none
def w13_wakes_A : Ann := [(15, [0])]
def w13_wakes_R : List Nat := []
noncomputable def w13_wakes_c (k pos : Nat) : St → Cont (ARes × Hp) → Option (ARes × Hp) := acode Try.prog w13_wakes_G w13_wakes_A w13_wakes_R k (cdAt (pathOf pos) (bodyOf Try.f14)) pos
def w13_wakes_T15 (x0 : Bool) : List AV := (.rv (.bool x0)) :: an 18 ([])
noncomputable def w13_wakes_p15 (k : Nat) (x0 : Bool) (h : Hp) : Option (ARes × Hp) := pnt (w13_wakes_c k 15) ⟨w13_wakes_T15 x0, h⟩ (finA Try.prog Try.f14)
theorem w13_wakes_p15_eq (k : Nat) (x0 : Bool) (h : Hp) : w13_wakes_p15 k x0 h = some (.ret (.rv (.bool x0)), h) := nrfl (by kernel_rfl)
theorem w13_wakes_eq (k : Nat)  (h : Hp) : fnA Try.prog w13_wakes_G w13_wakes_A w13_wakes_R k Try.f14 [] h = callP F_w12_Small h [(.rv (.int .i64 3))] (fun r1 => fldA 1 0 true r1 fun v3 => ixa 4 v3 0 fun p4 => ldg 4 h p4 fun v5 => callP F_flow_Post h [v5] (fun r6 => xtr r6 0 fun v8 => xtr r6 1 fun v9 => asInt .i64 v9 fun n10 => callP F_w13_num h [(.rv (.int .i64 n10))] (fun r11 => asInt .i64 r11 fun n13 => bsp ((n13 == 0)) (bsl 1 1 [(.rv (.int .i64 0))] [(some (0, 1), (.rv (.int .i64 0)))] h fun v14 h15 => callP F_r0_EqNumbers h15 [v8, v14] (fun r16 => asBool r16 fun b18 => w13_wakes_p15 k (b18) (h15)) (fun q17 => some (.pan q17, h15))) (w13_wakes_p15 k (false) (h))) (fun q12 => some (.pan q12, h))) (fun q7 => some (.pan q7, h))) (fun q2 => some (.pan q2, h)) := nrfl (by kernel_rfl)
theorem w13_wakes_good : Good Try.prog w13_wakes_G := by
  intro f c hc
  unfold w13_wakes_G at hc
  split at hc
  · cases hc; exact good_flow_Post
  · cases hc; exact good_w13_num
  · cases hc; exact good_r0_EqNumbers
  · cases hc; exact good_w12_Small
  · cases hc
noncomputable def F_w13_wakes : List RV → Option Res := fun rs => pureR (fnA Try.prog w13_wakes_G w13_wakes_A w13_wakes_R big Try.f14 (rs.map .rv) [])
theorem good_w13_wakes : GoodC Try.prog 14 (.pure F_w13_wakes) := goodP mixed w13_wakes_good (by kernel_rfl : Try.prog.funcs[14]? = some Try.f14) rfl rfl (fun rs r h => ⟨big, h⟩)

/-! gantry/gantrylaw13.FlowPost -/
abbrev id_w13_FlowPost : FuncId := 3
noncomputable def w13_FlowPost_G : FuncId → Option Callee := fun f => match f with
  | 7 => some (.pure F_w12_Weight)
  | 8 => some (.pure F_flow_Post)
  | 9 => some (.pure F_r0_CopyCode)
  | 10 => some (.pure F_w13_num)
  | 11 => some (.pure F_r13_Flow)
  | 12 => some (.pure F_r13_Hole)
  | 13 => some (.pure F_w13_reaches)
  | 14 => some (.pure F_w13_wakes)
  | _ => none
def w13_FlowPost_A : Ann := [(7, []), (52, [0, 3]), (209, [0, 3, 20]), (211, [0, 3]), (6733, [0, 3, 4, 50]), (13471, [0, 3, 4, 6]), (26943, [0, 3, 4, 6]), (107764, [0, 3, 4, 6, 7]), (107775, [0, 3, 4, 6, 9]), (215540, [0, 3, 4, 6, 8]), (215551, [0, 3, 195]), (862196, [0, 3, 4, 6, 9, 10]), (3448787, [0, 3, 4, 6, 9, 10]), (6897297, [0, 3, 4, 6, 8, 110]), (220722332, [0, 3, 4, 6, 9, 10, 11, 12]), (3531557321, [0, 3, 4, 6, 9, 10, 11, 12, 174])]
def w13_FlowPost_R : List Nat := []
noncomputable def w13_FlowPost_c (k pos : Nat) : St → Cont (ARes × Hp) → Option (ARes × Hp) := acode Try.prog w13_FlowPost_G w13_FlowPost_A w13_FlowPost_R k (cdAt (pathOf pos) (bodyOf Try.f3)) pos
noncomputable def w13_FlowPost_K0 (k : Nat) : Cont (ARes × Hp) := seqK (w13_FlowPost_c k 7) true (clrA w13_FlowPost_A 7) (finA Try.prog Try.f3)
noncomputable def w13_FlowPost_K1 (k : Nat) : Cont (ARes × Hp) := blkK 0 (w13_FlowPost_K0 k)
noncomputable def w13_FlowPost_K2 (k : Nat) (N52 M52 : Nat) : Cont (ARes × Hp) := itK (aloop (w13_FlowPost_c k 52) (clrA w13_FlowPost_A 52) (trimOf w13_FlowPost_R 52) M52 N52) (clrA w13_FlowPost_A 52) (trimOf w13_FlowPost_R 52) M52 (w13_FlowPost_K1 k)
noncomputable def w13_FlowPost_K3 (k : Nat) (N52 M52 : Nat) : Cont (ARes × Hp) := seqK (w13_FlowPost_c k 105) false (clrA w13_FlowPost_A 105) (w13_FlowPost_K2 k N52 M52)
noncomputable def w13_FlowPost_K4 (k : Nat) (N52 M52 : Nat) : Cont (ARes × Hp) := seqK (w13_FlowPost_c k 211) true (clrA w13_FlowPost_A 211) (w13_FlowPost_K2 k N52 M52)
noncomputable def w13_FlowPost_K5 (k : Nat) (N52 M52 : Nat) : Cont (ARes × Hp) := blkK 1 (w13_FlowPost_K4 k N52 M52)
noncomputable def w13_FlowPost_K6 (k : Nat) (N52 M52 : Nat) : Cont (ARes × Hp) := seqK (w13_FlowPost_c k 3367) false (clrA w13_FlowPost_A 3367) (w13_FlowPost_K5 k N52 M52)
noncomputable def w13_FlowPost_K7 (k : Nat) (N52 M52 : Nat) : Cont (ARes × Hp) := seqK (w13_FlowPost_c k 13471) true (clrA w13_FlowPost_A 13471) (w13_FlowPost_K5 k N52 M52)
noncomputable def w13_FlowPost_K8 (k : Nat) (N52 M52 : Nat) : Cont (ARes × Hp) := blkK 2 (w13_FlowPost_K7 k N52 M52)
noncomputable def w13_FlowPost_K9 (k : Nat) (N52 M52 : Nat) : Cont (ARes × Hp) := seqK (w13_FlowPost_c k 26943) true (clrA w13_FlowPost_A 26943) (w13_FlowPost_K5 k N52 M52)
noncomputable def w13_FlowPost_K10 (k : Nat) (N52 M52 : Nat) : Cont (ARes × Hp) := blkK 4 (w13_FlowPost_K9 k N52 M52)
noncomputable def w13_FlowPost_K11 (k : Nat) (N52 M52 : Nat) (N215540 M215540 : Nat) : Cont (ARes × Hp) := itK (aloop (w13_FlowPost_c k 215540) (clrA w13_FlowPost_A 215540) (trimOf w13_FlowPost_R 215540) M215540 N215540) (clrA w13_FlowPost_A 215540) (trimOf w13_FlowPost_R 215540) M215540 (w13_FlowPost_K10 k N52 M52)
noncomputable def w13_FlowPost_K12 (k : Nat) (N52 M52 : Nat) (N215540 M215540 : Nat) : Cont (ARes × Hp) := seqK (w13_FlowPost_c k 862163) false (clrA w13_FlowPost_A 862163) (w13_FlowPost_K11 k N52 M52 N215540 M215540)
noncomputable def w13_FlowPost_K13 (k : Nat) (N52 M52 : Nat) (N215540 M215540 : Nat) : Cont (ARes × Hp) := blkK 5 (w13_FlowPost_K12 k N52 M52 N215540 M215540)
noncomputable def w13_FlowPost_K14 (k : Nat) (N52 M52 : Nat) (N215540 M215540 : Nat) : Cont (ARes × Hp) := seqK (w13_FlowPost_c k 3448649) false (clrA w13_FlowPost_A 3448649) (w13_FlowPost_K13 k N52 M52 N215540 M215540)
noncomputable def w13_FlowPost_K15 (k : Nat) (N52 M52 : Nat) : Cont (ARes × Hp) := seqK (w13_FlowPost_c k 107775) true (clrA w13_FlowPost_A 107775) (w13_FlowPost_K5 k N52 M52)
noncomputable def w13_FlowPost_K16 (k : Nat) (N52 M52 : Nat) : Cont (ARes × Hp) := blkK 6 (w13_FlowPost_K15 k N52 M52)
noncomputable def w13_FlowPost_K17 (k : Nat) (N52 M52 : Nat) (N862196 M862196 : Nat) : Cont (ARes × Hp) := itK (aloop (w13_FlowPost_c k 862196) (clrA w13_FlowPost_A 862196) (trimOf w13_FlowPost_R 862196) M862196 N862196) (clrA w13_FlowPost_A 862196) (trimOf w13_FlowPost_R 862196) M862196 (w13_FlowPost_K16 k N52 M52)
noncomputable def w13_FlowPost_K18 (k : Nat) (N52 M52 : Nat) (N862196 M862196 : Nat) : Cont (ARes × Hp) := seqK (w13_FlowPost_c k 3448787) true (clrA w13_FlowPost_A 3448787) (w13_FlowPost_K17 k N52 M52 N862196 M862196)
noncomputable def w13_FlowPost_K19 (k : Nat) (N52 M52 : Nat) (N862196 M862196 : Nat) : Cont (ARes × Hp) := blkK 7 (w13_FlowPost_K18 k N52 M52 N862196 M862196)
noncomputable def w13_FlowPost_K20 (k : Nat) (N52 M52 : Nat) (N862196 M862196 : Nat) : Cont (ARes × Hp) := blkK 8 (w13_FlowPost_K19 k N52 M52 N862196 M862196)
noncomputable def w13_FlowPost_K21 (k : Nat) (N52 M52 : Nat) (N862196 M862196 : Nat) (N220722332 M220722332 : Nat) : Cont (ARes × Hp) := itK (aloop (w13_FlowPost_c k 220722332) (clrA w13_FlowPost_A 220722332) (trimOf w13_FlowPost_R 220722332) M220722332 N220722332) (clrA w13_FlowPost_A 220722332) (trimOf w13_FlowPost_R 220722332) M220722332 (w13_FlowPost_K20 k N52 M52 N862196 M862196)
noncomputable def w13_FlowPost_K22 (k : Nat) (N52 M52 : Nat) (N862196 M862196 : Nat) (N220722332 M220722332 : Nat) : Cont (ARes × Hp) := seqK (w13_FlowPost_c k 882889331) false (clrA w13_FlowPost_A 882889331) (w13_FlowPost_K21 k N52 M52 N862196 M862196 N220722332 M220722332)
noncomputable def w13_FlowPost_K23 (k : Nat) (N52 M52 : Nat) (N862196 M862196 : Nat) (N220722332 M220722332 : Nat) : Cont (ARes × Hp) := blkK 9 (w13_FlowPost_K22 k N52 M52 N862196 M862196 N220722332 M220722332)
def w13_FlowPost_T52 (x0 : AV) (x3 : Int) : List AV := x0 :: an 2 ((.rv (.int .i64 x3)) :: an 193 ([]))
noncomputable def w13_FlowPost_l52 (k : Nat) (N52 M52 : Nat) (x0 : AV) (x3 : Int) (h : Hp) : Option (ARes × Hp) := aloop (w13_FlowPost_c k 52) (clrA w13_FlowPost_A 52) (trimOf w13_FlowPost_R 52) M52 N52 ⟨w13_FlowPost_T52 x0 x3, h⟩ (w13_FlowPost_K1 k)
def w13_FlowPost_T209 (x0 : AV) (x3 : Int) (x20 : Bool) : List AV := x0 :: an 2 ((.rv (.int .i64 x3)) :: an 16 ((.rv (.bool x20)) :: an 176 ([])))
noncomputable def w13_FlowPost_p209 (k : Nat) (N52 M52 : Nat) (x0 : AV) (x3 : Int) (x20 : Bool) (h : Hp) : Option (ARes × Hp) := pnt (w13_FlowPost_c k 209) ⟨w13_FlowPost_T209 x0 x3 x20, h⟩ (w13_FlowPost_K3 k N52 M52)
def w13_FlowPost_T6733 (x0 : AV) (x3 : Int) (x4 : AV) (x50 : Bool) : List AV := x0 :: an 2 ((.rv (.int .i64 x3)) :: x4 :: an 45 ((.rv (.bool x50)) :: an 146 ([])))
noncomputable def w13_FlowPost_p6733 (k : Nat) (N52 M52 : Nat) (x0 : AV) (x3 : Int) (x4 : AV) (x50 : Bool) (h : Hp) : Option (ARes × Hp) := pnt (w13_FlowPost_c k 6733) ⟨w13_FlowPost_T6733 x0 x3 x4 x50, h⟩ (w13_FlowPost_K6 k N52 M52)
def w13_FlowPost_T7  : List AV := an 197 ([])
noncomputable def w13_FlowPost_p7 (k : Nat)  (h : Hp) : Option (ARes × Hp) := pnt (w13_FlowPost_c k 7) ⟨w13_FlowPost_T7 , h⟩ (finA Try.prog Try.f3)
def w13_FlowPost_T211 (x0 : AV) (x3 : Int) : List AV := x0 :: an 2 ((.rv (.int .i64 x3)) :: an 193 ([]))
noncomputable def w13_FlowPost_p211 (k : Nat) (N52 M52 : Nat) (x0 : AV) (x3 : Int) (h : Hp) : Option (ARes × Hp) := pnt (w13_FlowPost_c k 211) ⟨w13_FlowPost_T211 x0 x3, h⟩ (w13_FlowPost_K2 k N52 M52)
def w13_FlowPost_T107764 (x0 : AV) (x3 : Int) (x4 : AV) (x6 : AV) (x7 : Int) : List AV := x0 :: an 2 ((.rv (.int .i64 x3)) :: x4 :: an 1 (x6 :: (.rv (.int .i64 x7)) :: an 189 ([])))
noncomputable def w13_FlowPost_l107764 (k : Nat) (N52 M52 : Nat) (N107764 M107764 : Nat) (x0 : AV) (x3 : Int) (x4 : AV) (x6 : AV) (x7 : Int) (h : Hp) : Option (ARes × Hp) := aloop (w13_FlowPost_c k 107764) (clrA w13_FlowPost_A 107764) (trimOf w13_FlowPost_R 107764) M107764 N107764 ⟨w13_FlowPost_T107764 x0 x3 x4 x6 x7, h⟩ (w13_FlowPost_K8 k N52 M52)
def w13_FlowPost_T13471 (x0 : AV) (x3 : Int) (x4 : AV) (x6 : AV) : List AV := x0 :: an 2 ((.rv (.int .i64 x3)) :: x4 :: an 1 (x6 :: an 190 ([])))
noncomputable def w13_FlowPost_p13471 (k : Nat) (N52 M52 : Nat) (x0 : AV) (x3 : Int) (x4 : AV) (x6 : AV) (h : Hp) : Option (ARes × Hp) := pnt (w13_FlowPost_c k 13471) ⟨w13_FlowPost_T13471 x0 x3 x4 x6, h⟩ (w13_FlowPost_K5 k N52 M52)
def w13_FlowPost_T215540 (x0 : AV) (x3 : Int) (x4 : AV) (x6 : AV) (x8 : Int) : List AV := x0 :: an 2 ((.rv (.int .i64 x3)) :: x4 :: an 1 (x6 :: an 1 ((.rv (.int .i64 x8)) :: an 188 ([]))))
noncomputable def w13_FlowPost_l215540 (k : Nat) (N52 M52 : Nat) (N215540 M215540 : Nat) (x0 : AV) (x3 : Int) (x4 : AV) (x6 : AV) (x8 : Int) (h : Hp) : Option (ARes × Hp) := aloop (w13_FlowPost_c k 215540) (clrA w13_FlowPost_A 215540) (trimOf w13_FlowPost_R 215540) M215540 N215540 ⟨w13_FlowPost_T215540 x0 x3 x4 x6 x8, h⟩ (w13_FlowPost_K10 k N52 M52)
def w13_FlowPost_T6897297 (x0 : AV) (x3 : Int) (x4 : AV) (x6 : AV) (x8 : Int) (x110 : Bool) : List AV := x0 :: an 2 ((.rv (.int .i64 x3)) :: x4 :: an 1 (x6 :: an 1 ((.rv (.int .i64 x8)) :: an 101 ((.rv (.bool x110)) :: an 86 ([])))))
noncomputable def w13_FlowPost_p6897297 (k : Nat) (N52 M52 : Nat) (N215540 M215540 : Nat) (x0 : AV) (x3 : Int) (x4 : AV) (x6 : AV) (x8 : Int) (x110 : Bool) (h : Hp) : Option (ARes × Hp) := pnt (w13_FlowPost_c k 6897297) ⟨w13_FlowPost_T6897297 x0 x3 x4 x6 x8 x110, h⟩ (w13_FlowPost_K14 k N52 M52 N215540 M215540)
def w13_FlowPost_T26943 (x0 : AV) (x3 : Int) (x4 : AV) (x6 : AV) : List AV := x0 :: an 2 ((.rv (.int .i64 x3)) :: x4 :: an 1 (x6 :: an 190 ([])))
noncomputable def w13_FlowPost_p26943 (k : Nat) (N52 M52 : Nat) (x0 : AV) (x3 : Int) (x4 : AV) (x6 : AV) (h : Hp) : Option (ARes × Hp) := pnt (w13_FlowPost_c k 26943) ⟨w13_FlowPost_T26943 x0 x3 x4 x6, h⟩ (w13_FlowPost_K5 k N52 M52)
def w13_FlowPost_T862196 (x0 : AV) (x3 : Int) (x4 : AV) (x6 : AV) (x9 : Int) (x10 : Int) : List AV := x0 :: an 2 ((.rv (.int .i64 x3)) :: x4 :: an 1 (x6 :: an 2 ((.rv (.int .i64 x9)) :: (.rv (.int .i64 x10)) :: an 186 ([]))))
noncomputable def w13_FlowPost_l862196 (k : Nat) (N52 M52 : Nat) (N862196 M862196 : Nat) (x0 : AV) (x3 : Int) (x4 : AV) (x6 : AV) (x9 : Int) (x10 : Int) (h : Hp) : Option (ARes × Hp) := aloop (w13_FlowPost_c k 862196) (clrA w13_FlowPost_A 862196) (trimOf w13_FlowPost_R 862196) M862196 N862196 ⟨w13_FlowPost_T862196 x0 x3 x4 x6 x9 x10, h⟩ (w13_FlowPost_K16 k N52 M52)
def w13_FlowPost_T3448787 (x0 : AV) (x3 : Int) (x4 : AV) (x6 : AV) (x9 : Int) (x10 : Int) : List AV := x0 :: an 2 ((.rv (.int .i64 x3)) :: x4 :: an 1 (x6 :: an 2 ((.rv (.int .i64 x9)) :: (.rv (.int .i64 x10)) :: an 186 ([]))))
noncomputable def w13_FlowPost_p3448787 (k : Nat) (N52 M52 : Nat) (N862196 M862196 : Nat) (x0 : AV) (x3 : Int) (x4 : AV) (x6 : AV) (x9 : Int) (x10 : Int) (h : Hp) : Option (ARes × Hp) := pnt (w13_FlowPost_c k 3448787) ⟨w13_FlowPost_T3448787 x0 x3 x4 x6 x9 x10, h⟩ (w13_FlowPost_K17 k N52 M52 N862196 M862196)
def w13_FlowPost_T220722332 (x0 : AV) (x3 : Int) (x4 : AV) (x6 : AV) (x9 : Int) (x10 : Int) (x11 : AV) (x12 : Int) : List AV := x0 :: an 2 ((.rv (.int .i64 x3)) :: x4 :: an 1 (x6 :: an 2 ((.rv (.int .i64 x9)) :: (.rv (.int .i64 x10)) :: x11 :: (.rv (.int .i64 x12)) :: an 184 ([]))))
noncomputable def w13_FlowPost_l220722332 (k : Nat) (N52 M52 : Nat) (N862196 M862196 : Nat) (N220722332 M220722332 : Nat) (x0 : AV) (x3 : Int) (x4 : AV) (x6 : AV) (x9 : Int) (x10 : Int) (x11 : AV) (x12 : Int) (h : Hp) : Option (ARes × Hp) := aloop (w13_FlowPost_c k 220722332) (clrA w13_FlowPost_A 220722332) (trimOf w13_FlowPost_R 220722332) M220722332 N220722332 ⟨w13_FlowPost_T220722332 x0 x3 x4 x6 x9 x10 x11 x12, h⟩ (w13_FlowPost_K20 k N52 M52 N862196 M862196)
def w13_FlowPost_T107775 (x0 : AV) (x3 : Int) (x4 : AV) (x6 : AV) (x9 : Int) : List AV := x0 :: an 2 ((.rv (.int .i64 x3)) :: x4 :: an 1 (x6 :: an 2 ((.rv (.int .i64 x9)) :: an 187 ([]))))
noncomputable def w13_FlowPost_p107775 (k : Nat) (N52 M52 : Nat) (x0 : AV) (x3 : Int) (x4 : AV) (x6 : AV) (x9 : Int) (h : Hp) : Option (ARes × Hp) := pnt (w13_FlowPost_c k 107775) ⟨w13_FlowPost_T107775 x0 x3 x4 x6 x9, h⟩ (w13_FlowPost_K5 k N52 M52)
def w13_FlowPost_T3531557321 (x0 : AV) (x3 : Int) (x4 : AV) (x6 : AV) (x9 : Int) (x10 : Int) (x11 : AV) (x12 : Int) (x174 : Bool) : List AV := x0 :: an 2 ((.rv (.int .i64 x3)) :: x4 :: an 1 (x6 :: an 2 ((.rv (.int .i64 x9)) :: (.rv (.int .i64 x10)) :: x11 :: (.rv (.int .i64 x12)) :: an 161 ((.rv (.bool x174)) :: an 22 ([])))))
noncomputable def w13_FlowPost_p3531557321 (k : Nat) (N52 M52 : Nat) (N862196 M862196 : Nat) (N220722332 M220722332 : Nat) (x0 : AV) (x3 : Int) (x4 : AV) (x6 : AV) (x9 : Int) (x10 : Int) (x11 : AV) (x12 : Int) (x174 : Bool) (h : Hp) : Option (ARes × Hp) := pnt (w13_FlowPost_c k 3531557321) ⟨w13_FlowPost_T3531557321 x0 x3 x4 x6 x9 x10 x11 x12 x174, h⟩ (w13_FlowPost_K23 k N52 M52 N862196 M862196 N220722332 M220722332)
def w13_FlowPost_T215551 (x0 : AV) (x3 : Int) (x195 : Bool) : List AV := x0 :: an 2 ((.rv (.int .i64 x3)) :: an 191 ((.rv (.bool x195)) :: an 1 ([])))
noncomputable def w13_FlowPost_p215551 (k : Nat) (N52 M52 : Nat) (x0 : AV) (x3 : Int) (x195 : Bool) (h : Hp) : Option (ARes × Hp) := pnt (w13_FlowPost_c k 215551) ⟨w13_FlowPost_T215551 x0 x3 x195, h⟩ (w13_FlowPost_K5 k N52 M52)
theorem w13_FlowPost_l52_eq (k : Nat) (N52 M52 : Nat) (x0 : AV) (x3 : Int) (h : Hp) : w13_FlowPost_l52 k (N52 + 1) M52 x0 x3 h = lna x0 fun n1 => bsp ((decide (x3 < n1))) (w13_FlowPost_p209 k N52 M52 x0 (x3) ((decide (x3 < 10))) (h)) (w13_FlowPost_p209 k N52 M52 x0 (x3) (false) (h)) := nrfl (by kernel_rfl)
theorem w13_FlowPost_p209_eq (k : Nat) (N52 M52 : Nat) (x0 : AV) (x3 : Int) (x20 : Bool) (h : Hp) : w13_FlowPost_p209 k N52 M52 x0 x3 x20 h = bsp (x20) (ixa 4 x0 x3 fun p2 => ldg 4 h p2 fun v3 => bsl 4 1 [(.rv .nils), (.rv .nils), (.rv .nils), (.rv .nils)] [(some (0, 4), v3)] h fun v4 h5 => bld [(.rv .nils), (.rv .nils)] [(some (0, 1), v4)] fun v6 => callP F_w12_Weight h5 [v6, (.rv (.int .i64 2000))] (fun r7 => asInt .i64 r7 fun n9 => bsp ((decide (n9 > 2000))) (some (.ret (.rv (.bool true)), h5)) (ixa 4 x0 x3 fun p10 => ldg 4 h5 p10 fun v11 => callP F_r0_CopyCode h5 [v11] (fun r12 => callP F_flow_Post h5 [r12] (fun r14 => xtr r14 0 fun v16 => xtr r14 1 fun v17 => asInt .i64 v17 fun n18 => callP F_w13_num h5 [(.rv (.int .i64 n18))] (fun r19 => asInt .i64 r19 fun n21 => bsp ((n21 != 0)) (w13_FlowPost_p6733 k N52 M52 x0 (x3) v16 (true) (h5)) (ixa 4 x0 x3 fun p22 => ldg 4 h5 p22 fun v23 => callP F_r13_Flow h5 [v23] (fun r24 => asInt .i64 r24 fun n26 => w13_FlowPost_p6733 k N52 M52 x0 (x3) v16 ((n26 != 0)) (h5)) (fun q25 => some (.pan q25, h5)))) (fun q20 => some (.pan q20, h5))) (fun q15 => some (.pan q15, h5))) (fun q13 => some (.pan q13, h5)))) (fun q8 => some (.pan q8, h5))) (w13_FlowPost_p7 k  (h)) := nrfl (by kernel_rfl)
theorem w13_FlowPost_p6733_eq (k : Nat) (N52 M52 : Nat) (x0 : AV) (x3 : Int) (x4 : AV) (x50 : Bool) (h : Hp) : w13_FlowPost_p6733 k N52 M52 x0 x3 x4 x50 h = bsp (x50) (w13_FlowPost_p211 k N52 M52 x0 (x3) (h)) (ixa 4 x0 x3 fun p27 => pad p27 3 fun p28 => ldv h p28 fun v29 => lna v29 fun n30 => mks 1 8 [(.rv (.int .i64 0))] h n30 fun v31 h32 => w13_FlowPost_l107764 k N52 M52 k h32.length x0 (x3) x4 v31 (0) (h32)) := nrfl (by kernel_rfl)
theorem w13_FlowPost_p7_eq (k : Nat)  (h : Hp) : w13_FlowPost_p7 k  h = callP F_w13_wakes h [] (fun r33 => asBool r33 fun b35 => some (.ret (.rv (.bool b35)), h)) (fun q34 => some (.pan q34, h)) := nrfl (by kernel_rfl)
theorem w13_FlowPost_p211_eq (k : Nat) (N52 M52 : Nat) (x0 : AV) (x3 : Int) (h : Hp) : w13_FlowPost_p211 k N52 M52 x0 x3 h = w13_FlowPost_l52 k N52 M52 x0 ((wri .i64 (x3 + 1))) (h) := nrfl (by kernel_rfl)
theorem w13_FlowPost_l107764_eq (k : Nat) (N52 M52 : Nat) (N107764 M107764 : Nat) (x0 : AV) (x3 : Int) (x4 : AV) (x6 : AV) (x7 : Int) (h : Hp) : w13_FlowPost_l107764 k N52 M52 (N107764 + 1) M107764 x0 x3 x4 x6 x7 h = lna x6 fun n36 => bsp ((decide (x7 < n36))) (ixa 1 x6 x7 fun p37 => stv 1 h p37 (.rv (.int .i64 (-1))) fun h38 => w13_FlowPost_l107764 k N52 M52 N107764 M107764 x0 (x3) x4 x6 ((wri .i64 (x7 + 1))) (h38)) (w13_FlowPost_p13471 k N52 M52 x0 (x3) x4 x6 (h)) := nrfl (by kernel_rfl)
theorem w13_FlowPost_p13471_eq (k : Nat) (N52 M52 : Nat) (x0 : AV) (x3 : Int) (x4 : AV) (x6 : AV) (h : Hp) : w13_FlowPost_p13471 k N52 M52 x0 x3 x4 x6 h = w13_FlowPost_l215540 k N52 M52 k h.length x0 (x3) x4 x6 (0) (h) := nrfl (by kernel_rfl)
theorem w13_FlowPost_l215540_eq (k : Nat) (N52 M52 : Nat) (N215540 M215540 : Nat) (x0 : AV) (x3 : Int) (x4 : AV) (x6 : AV) (x8 : Int) (h : Hp) : w13_FlowPost_l215540 k N52 M52 (N215540 + 1) M215540 x0 x3 x4 x6 x8 h = lna x4 fun n39 => bsp ((decide (x8 < n39))) (ixa 1 x4 x8 fun p40 => ldi .i64 h p40 fun n41 => bsp ((decide (n41 < 0))) (w13_FlowPost_p6897297 k N52 M52 N215540 M215540 x0 (x3) x4 x6 (x8) (true) (h)) (ixa 1 x4 x8 fun p42 => ldi .i64 h p42 fun n43 => lna x6 fun n44 => bsp ((decide (n43 ≥ n44))) (w13_FlowPost_p6897297 k N52 M52 N215540 M215540 x0 (x3) x4 x6 (x8) (true) (h)) (ixa 1 x4 x8 fun p45 => ldi .i64 h p45 fun n46 => ixa 1 x6 n46 fun p47 => ldi .i64 h p47 fun n48 => bsp ((decide (n48 ≥ 0))) (w13_FlowPost_p6897297 k N52 M52 N215540 M215540 x0 (x3) x4 x6 (x8) (true) (h)) (ixa 4 x0 x3 fun p49 => pad p49 3 fun p50 => ldv h p50 fun v51 => ixa 1 x4 x8 fun p52 => ldi .i64 h p52 fun n53 => ixa 6 v51 n53 fun p54 => ldg 6 h p54 fun v55 => callP F_r13_Hole h [v55] (fun r56 => asBool r56 fun b58 => w13_FlowPost_p6897297 k N52 M52 N215540 M215540 x0 (x3) x4 x6 (x8) (b58) (h)) (fun q57 => none))))) (w13_FlowPost_p26943 k N52 M52 x0 (x3) x4 x6 (h)) := nrfl (by kernel_rfl)
theorem w13_FlowPost_p6897297_eq (k : Nat) (N52 M52 : Nat) (N215540 M215540 : Nat) (x0 : AV) (x3 : Int) (x4 : AV) (x6 : AV) (x8 : Int) (x110 : Bool) (h : Hp) : w13_FlowPost_p6897297 k N52 M52 N215540 M215540 x0 x3 x4 x6 x8 x110 h = bsp (x110) (some (.ret (.rv (.bool false)), h)) (ixa 1 x4 x8 fun p59 => ldi .i64 h p59 fun n60 => ixa 1 x6 n60 fun p61 => stv 1 h p61 (.rv (.int .i64 x8)) fun h62 => w13_FlowPost_l215540 k N52 M52 N215540 M215540 x0 (x3) x4 x6 ((wri .i64 (x8 + 1))) (h62)) := nrfl (by kernel_rfl)
theorem w13_FlowPost_p26943_eq (k : Nat) (N52 M52 : Nat) (x0 : AV) (x3 : Int) (x4 : AV) (x6 : AV) (h : Hp) : w13_FlowPost_p26943 k N52 M52 x0 x3 x4 x6 h = w13_FlowPost_l862196 k N52 M52 k h.length x0 (x3) x4 x6 (0) (0) (h) := nrfl (by kernel_rfl)
theorem w13_FlowPost_l862196_eq (k : Nat) (N52 M52 : Nat) (N862196 M862196 : Nat) (x0 : AV) (x3 : Int) (x4 : AV) (x6 : AV) (x9 : Int) (x10 : Int) (h : Hp) : w13_FlowPost_l862196 k N52 M52 (N862196 + 1) M862196 x0 x3 x4 x6 x9 x10 h = lna x6 fun n63 => bsp ((decide (x10 < n63))) (ixa 4 x0 x3 fun p64 => pad p64 3 fun p65 => ldv h p65 fun v66 => ixa 6 v66 x10 fun p67 => ldg 6 h p67 fun v68 => callP F_r13_Hole h [v68] (fun r69 => asBool r69 fun b71 => bsp (b71) (w13_FlowPost_p3448787 k N52 M52 N862196 M862196 x0 (x3) x4 x6 ((wri .i64 (x9 + 1))) (x10) (h)) (ixa 4 x0 x3 fun p72 => pad p72 3 fun p73 => ldv h p73 fun v74 => ixa 6 v74 x10 fun p75 => pad p75 4 fun p76 => ldv h p76 fun v77 => w13_FlowPost_l220722332 k N52 M52 N862196 M862196 k h.length x0 (x3) x4 x6 (x9) (x10) v77 (0) (h))) (fun q70 => some (.pan q70, h))) (w13_FlowPost_p107775 k N52 M52 x0 (x3) x4 x6 (x9) (h)) := nrfl (by kernel_rfl)
theorem w13_FlowPost_p3448787_eq (k : Nat) (N52 M52 : Nat) (N862196 M862196 : Nat) (x0 : AV) (x3 : Int) (x4 : AV) (x6 : AV) (x9 : Int) (x10 : Int) (h : Hp) : w13_FlowPost_p3448787 k N52 M52 N862196 M862196 x0 x3 x4 x6 x9 x10 h = w13_FlowPost_l862196 k N52 M52 N862196 M862196 x0 (x3) x4 x6 (x9) ((wri .i64 (x10 + 1))) (h) := nrfl (by kernel_rfl)
theorem w13_FlowPost_l220722332_eq (k : Nat) (N52 M52 : Nat) (N862196 M862196 : Nat) (N220722332 M220722332 : Nat) (x0 : AV) (x3 : Int) (x4 : AV) (x6 : AV) (x9 : Int) (x10 : Int) (x11 : AV) (x12 : Int) (h : Hp) : w13_FlowPost_l220722332 k N52 M52 N862196 M862196 (N220722332 + 1) M220722332 x0 x3 x4 x6 x9 x10 x11 x12 h = lna x11 fun n78 => bsp ((decide (x12 < n78))) (ixa 1 x11 x12 fun p79 => ldi .i64 h p79 fun n80 => ixa 1 x6 n80 fun p81 => ldi .i64 h p81 fun n82 => ixa 1 x6 x10 fun p83 => ldi .i64 h p83 fun n84 => bsp ((decide (n82 > n84))) (ixa 4 x0 x3 fun p85 => ldg 4 h p85 fun v86 => ixa 1 x11 x12 fun p87 => ldi .i64 h p87 fun n88 => callP F_w13_reaches h [v86, (.rv (.int .i64 n88)), (.rv (.int .i64 x10))] (fun r89 => asBool r89 fun b91 => w13_FlowPost_p3531557321 k N52 M52 N862196 M862196 N220722332 M220722332 x0 (x3) x4 x6 (x9) (x10) x11 (x12) ((!b91)) (h)) (fun q90 => none)) (w13_FlowPost_p3531557321 k N52 M52 N862196 M862196 N220722332 M220722332 x0 (x3) x4 x6 (x9) (x10) x11 (x12) (false) (h))) (w13_FlowPost_p3448787 k N52 M52 N862196 M862196 x0 (x3) x4 x6 (x9) (x10) (h)) := nrfl (by kernel_rfl)
theorem w13_FlowPost_p107775_eq (k : Nat) (N52 M52 : Nat) (x0 : AV) (x3 : Int) (x4 : AV) (x6 : AV) (x9 : Int) (h : Hp) : w13_FlowPost_p107775 k N52 M52 x0 x3 x4 x6 x9 h = lna x4 fun n92 => lna x6 fun n93 => bsp (((wri .i64 (n92 + x9)) != n93)) (w13_FlowPost_p215551 k N52 M52 x0 (x3) (true) (h)) (lna x4 fun n94 => bsp ((n94 == 0)) (w13_FlowPost_p215551 k N52 M52 x0 (x3) (true) (h)) (lna x4 fun n95 => ixa 1 x4 (wri .i64 (n95 - 1)) fun p96 => ldi .i64 h p96 fun n97 => w13_FlowPost_p215551 k N52 M52 x0 (x3) ((n97 != 0)) (h))) := nrfl (by kernel_rfl)
theorem w13_FlowPost_p3531557321_eq (k : Nat) (N52 M52 : Nat) (N862196 M862196 : Nat) (N220722332 M220722332 : Nat) (x0 : AV) (x3 : Int) (x4 : AV) (x6 : AV) (x9 : Int) (x10 : Int) (x11 : AV) (x12 : Int) (x174 : Bool) (h : Hp) : w13_FlowPost_p3531557321 k N52 M52 N862196 M862196 N220722332 M220722332 x0 x3 x4 x6 x9 x10 x11 x12 x174 h = bsp (x174) (some (.ret (.rv (.bool false)), h)) (w13_FlowPost_l220722332 k N52 M52 N862196 M862196 N220722332 M220722332 x0 (x3) x4 x6 (x9) (x10) x11 ((wri .i64 (x12 + 1))) (h)) := nrfl (by kernel_rfl)
theorem w13_FlowPost_p215551_eq (k : Nat) (N52 M52 : Nat) (x0 : AV) (x3 : Int) (x195 : Bool) (h : Hp) : w13_FlowPost_p215551 k N52 M52 x0 x3 x195 h = bsp (x195) (some (.ret (.rv (.bool false)), h)) (w13_FlowPost_p211 k N52 M52 x0 (x3) (h)) := nrfl (by kernel_rfl)
theorem w13_FlowPost_eq (k : Nat) (x0 : AV) (h : Hp) : fnA Try.prog w13_FlowPost_G w13_FlowPost_A w13_FlowPost_R k Try.f3 [x0] h = w13_FlowPost_l52 k k h.length x0 (0) (h) := nrfl (by kernel_rfl)
theorem w13_FlowPost_good : Good Try.prog w13_FlowPost_G := by
  intro f c hc
  unfold w13_FlowPost_G at hc
  split at hc
  · cases hc; exact good_w12_Weight
  · cases hc; exact good_flow_Post
  · cases hc; exact good_r0_CopyCode
  · cases hc; exact good_w13_num
  · cases hc; exact good_r13_Flow
  · cases hc; exact good_r13_Hole
  · cases hc; exact good_w13_reaches
  · cases hc; exact good_w13_wakes
  · cases hc
noncomputable def F_w13_FlowPost : List RV → Option Res := fun rs => pureR (fnA Try.prog w13_FlowPost_G w13_FlowPost_A w13_FlowPost_R big Try.f3 (rs.map .rv) [])
theorem good_w13_FlowPost : GoodC Try.prog 3 (.pure F_w13_FlowPost) := goodP mixed w13_FlowPost_good (by kernel_rfl : Try.prog.funcs[3]? = some Try.f3) rfl rfl (fun rs r h => ⟨big, h⟩)
end Go.Proofs.Ytknphnmhjmejaaa
