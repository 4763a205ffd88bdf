/- Joined texts: E1. No conditions but those of each. -/
import Derived.Test.YtknphnmhjmejaaaJ13
/- The places and the unfolding equations of these functions (printed by gen.py of this repo): no conditions. -/
namespace Go.Proofs.Ytknphnmhjmejaaa
set_option linter.unusedVariables false
set_option maxRecDepth 100000

/-! cmp.isNaN[int] -/
abbrev id_cmp_isNaN_int : FuncId := 79
noncomputable def cmp_isNaN_int_G : FuncId → Option Callee := fun f => match f with
  | _ => none
def cmp_isNaN_int_A : Ann := []
def cmp_isNaN_int_R : List Nat := []
noncomputable def cmp_isNaN_int_c (k pos : Nat) : St → Cont (ARes × Hp) → Option (ARes × Hp) := acode Try.prog cmp_isNaN_int_G cmp_isNaN_int_A cmp_isNaN_int_R k (cdAt (pathOf pos) (bodyOf Try.f79)) pos
theorem cmp_isNaN_int_eq (k : Nat) (x0 : Int) (h : Hp) : fnA Try.prog cmp_isNaN_int_G cmp_isNaN_int_A cmp_isNaN_int_R k Try.f79 [(.rv (.int .i64 x0))] h = some (.ret (.rv (.bool (x0 != x0))), h) := nrfl (by kernel_rfl)
theorem cmp_isNaN_int_good : Good Try.prog cmp_isNaN_int_G := fun f c hc => by cases hc
noncomputable def F_cmp_isNaN_int : List RV → Option Res := fun rs => pureR (fnA Try.prog cmp_isNaN_int_G cmp_isNaN_int_A cmp_isNaN_int_R big Try.f79 (rs.map .rv) [])
theorem good_cmp_isNaN_int : GoodC Try.prog 79 (.pure F_cmp_isNaN_int) := goodP mixed cmp_isNaN_int_good (by kernel_rfl : Try.prog.funcs[79]? = some Try.f79) rfl rfl (fun rs r h => ⟨big, h⟩)

/-! slices.isNaN[int] -/
abbrev id_slices_isNaN_int : FuncId := 69
noncomputable def slices_isNaN_int_G : FuncId → Option Callee := fun f => match f with
  | _ => none
def slices_isNaN_int_A : Ann := []
def slices_isNaN_int_R : List Nat := []
noncomputable def slices_isNaN_int_c (k pos : Nat) : St → Cont (ARes × Hp) → Option (ARes × Hp) := acode Try.prog slices_isNaN_int_G slices_isNaN_int_A slices_isNaN_int_R k (cdAt (pathOf pos) (bodyOf Try.f69)) pos
theorem slices_isNaN_int_eq (k : Nat) (x0 : Int) (h : Hp) : fnA Try.prog slices_isNaN_int_G slices_isNaN_int_A slices_isNaN_int_R k Try.f69 [(.rv (.int .i64 x0))] h = some (.ret (.rv (.bool (x0 != x0))), h) := nrfl (by kernel_rfl)
theorem slices_isNaN_int_good : Good Try.prog slices_isNaN_int_G := fun f c hc => by cases hc
noncomputable def F_slices_isNaN_int : List RV → Option Res := fun rs => pureR (fnA Try.prog slices_isNaN_int_G slices_isNaN_int_A slices_isNaN_int_R big Try.f69 (rs.map .rv) [])
theorem good_slices_isNaN_int : GoodC Try.prog 69 (.pure F_slices_isNaN_int) := goodP mixed slices_isNaN_int_good (by kernel_rfl : Try.prog.funcs[69]? = some Try.f69) rfl rfl (fun rs r h => ⟨big, h⟩)

/-! cmp.Less[int] -/
abbrev id_cmp_Less_int : FuncId := 68
noncomputable def cmp_Less_int_G : FuncId → Option Callee := fun f => match f with
  | 79 => some (.pure F_cmp_isNaN_int)
  | _ => none
def cmp_Less_int_A : Ann := [(7, [4])]
def cmp_Less_int_R : List Nat := []
noncomputable def cmp_Less_int_c (k pos : Nat) : St → Cont (ARes × Hp) → Option (ARes × Hp) := acode Try.prog cmp_Less_int_G cmp_Less_int_A cmp_Less_int_R k (cdAt (pathOf pos) (bodyOf Try.f68)) pos
def cmp_Less_int_T7 (x4 : Bool) : List AV := an 4 ((.rv (.bool x4)) :: an 12 ([]))
noncomputable def cmp_Less_int_p7 (k : Nat) (x4 : Bool) (h : Hp) : Option (ARes × Hp) := pnt (cmp_Less_int_c k 7) ⟨cmp_Less_int_T7 x4, h⟩ (finA Try.prog Try.f68)
theorem cmp_Less_int_p7_eq (k : Nat) (x4 : Bool) (h : Hp) : cmp_Less_int_p7 k x4 h = some (.ret (.rv (.bool x4)), h) := nrfl (by kernel_rfl)
theorem cmp_Less_int_eq (k : Nat) (x0 : Int) (x1 : Int) (h : Hp) : fnA Try.prog cmp_Less_int_G cmp_Less_int_A cmp_Less_int_R k Try.f68 [(.rv (.int .i64 x0)), (.rv (.int .i64 x1))] h = callP F_cmp_isNaN_int h [(.rv (.int .i64 x0))] (fun r1 => asBool r1 fun b3 => bsp (b3) (callP F_cmp_isNaN_int h [(.rv (.int .i64 x1))] (fun r4 => asBool r4 fun b6 => bsp ((!b6)) (cmp_Less_int_p7 k (true) (h)) (cmp_Less_int_p7 k ((decide (x0 < x1))) (h))) (fun q5 => some (.pan q5, h))) (cmp_Less_int_p7 k ((decide (x0 < x1))) (h))) (fun q2 => some (.pan q2, h)) := nrfl (by kernel_rfl)
theorem cmp_Less_int_good : Good Try.prog cmp_Less_int_G := by
  intro f c hc
  unfold cmp_Less_int_G at hc
  split at hc
  · cases hc; exact good_cmp_isNaN_int
  · cases hc
noncomputable def F_cmp_Less_int : List RV → Option Res := fun rs => pureR (fnA Try.prog cmp_Less_int_G cmp_Less_int_A cmp_Less_int_R big Try.f68 (rs.map .rv) [])
theorem good_cmp_Less_int : GoodC Try.prog 68 (.pure F_cmp_Less_int) := goodP mixed cmp_Less_int_good (by kernel_rfl : Try.prog.funcs[68]? = some Try.f68) rfl rfl (fun rs r h => ⟨big, h⟩)

/-! slices.BinarySearch[[]int,int] -/
abbrev id_slices_BinarySearch_int : FuncId := 49
noncomputable def slices_BinarySearch_int_G : FuncId → Option Callee := fun f => match f with
  | 68 => some (.pure F_cmp_Less_int)
  | 69 => some (.pure F_slices_isNaN_int)
  | _ => none
def slices_BinarySearch_int_A : Ann := [(31, [0, 1, 6, 7]), (63, [4, 5]), (120, [0, 1, 6, 7, 8])]
def slices_BinarySearch_int_R : List Nat := []
noncomputable def slices_BinarySearch_int_c (k pos : Nat) : St → Cont (ARes × Hp) → Option (ARes × Hp) := acode Try.prog slices_BinarySearch_int_G slices_BinarySearch_int_A slices_BinarySearch_int_R k (cdAt (pathOf pos) (bodyOf Try.f49)) pos
def slices_BinarySearch_int_T120 (x0 : AV) (x1 : Int) (x6 : Int) (x7 : Int) (x8 : Int) : List AV := x0 :: (.rv (.int .i64 x1)) :: an 4 ((.rv (.int .i64 x6)) :: (.rv (.int .i64 x7)) :: (.rv (.int .i64 x8)) :: an 45 ([]))
def slices_BinarySearch_int_T31 (x0 : AV) (x1 : Int) (x6 : Int) (x7 : Int) : List AV := x0 :: (.rv (.int .i64 x1)) :: an 4 ((.rv (.int .i64 x6)) :: (.rv (.int .i64 x7)) :: an 46 ([]))
def slices_BinarySearch_int_T63 (x4 : Int) (x5 : Bool) : List AV := an 4 ((.rv (.int .i64 x4)) :: (.rv (.bool x5)) :: an 48 ([]))
noncomputable def slices_BinarySearch_int_K0 (k : Nat) : Cont (ARes × Hp) := seqK (slices_BinarySearch_int_c k 31) true (clrA slices_BinarySearch_int_A 31) (finA Try.prog Try.f49)
noncomputable def slices_BinarySearch_int_K1 (k : Nat) : Cont (ARes × Hp) := blkK 0 (slices_BinarySearch_int_K0 k)
noncomputable def slices_BinarySearch_int_l120 (k : Nat) (N120 M120 : Nat) (x0 : AV) (x1 : Int) (x6 : Int) (x7 : Int) (x8 : Int) (h : Hp) : Option (ARes × Hp) := aloop (slices_BinarySearch_int_c k 120) (clrA slices_BinarySearch_int_A 120) (trimOf slices_BinarySearch_int_R 120) M120 N120 ⟨slices_BinarySearch_int_T120 x0 x1 x6 x7 x8, h⟩ (slices_BinarySearch_int_K1 k)
noncomputable def slices_BinarySearch_int_p31 (k : Nat) (x0 : AV) (x1 : Int) (x6 : Int) (x7 : Int) (h : Hp) : Option (ARes × Hp) := pnt (slices_BinarySearch_int_c k 31) ⟨slices_BinarySearch_int_T31 x0 x1 x6 x7, h⟩ (finA Try.prog Try.f49)
noncomputable def slices_BinarySearch_int_p63 (k : Nat) (x4 : Int) (x5 : Bool) (h : Hp) : Option (ARes × Hp) := pnt (slices_BinarySearch_int_c k 63) ⟨slices_BinarySearch_int_T63 x4 x5, h⟩ (finA Try.prog Try.f49)
theorem slices_BinarySearch_int_l120_eq (k : Nat) (N120 M120 : Nat) (x0 : AV) (x1 : Int) (x6 : Int) (x7 : Int) (x8 : Int) (h : Hp) : slices_BinarySearch_int_l120 k (N120 + 1) M120 x0 x1 x6 x7 x8 h = bsp ((decide (x7 < x8))) (ixa 1 x0 (wri .i64 (Int.fdiv (wri .u64 (wri .i64 (x7 + x8))) (2 ^ 1))) fun p2 => ldi .i64 h p2 fun n3 => callP F_cmp_Less_int h [(.rv (.int .i64 n3)), (.rv (.int .i64 x1))] (fun r4 => asBool r4 fun b6 => bsp (b6) (slices_BinarySearch_int_l120 k N120 M120 x0 (x1) (x6) ((wri .i64 ((wri .i64 (Int.fdiv (wri .u64 (wri .i64 (x7 + x8))) (2 ^ 1))) + 1))) (x8) (h)) (slices_BinarySearch_int_l120 k N120 M120 x0 (x1) (x6) (x7) ((wri .i64 (Int.fdiv (wri .u64 (wri .i64 (x7 + x8))) (2 ^ 1)))) (h))) (fun q5 => some (.pan q5, h))) (slices_BinarySearch_int_p31 k x0 (x1) (x6) (x7) (h)) := nrfl (by kernel_rfl)
theorem slices_BinarySearch_int_p31_eq (k : Nat) (x0 : AV) (x1 : Int) (x6 : Int) (x7 : Int) (h : Hp) : slices_BinarySearch_int_p31 k x0 x1 x6 x7 h = bsp ((decide (x7 < x6))) (ixa 1 x0 x7 fun p7 => ldi .i64 h p7 fun n8 => bsp ((n8 == x1)) (slices_BinarySearch_int_p63 k (x7) (true) (h)) (ixa 1 x0 x7 fun p9 => ldi .i64 h p9 fun n10 => callP F_slices_isNaN_int h [(.rv (.int .i64 n10))] (fun r11 => asBool r11 fun b13 => bsp (b13) (callP F_slices_isNaN_int h [(.rv (.int .i64 x1))] (fun r14 => asBool r14 fun b16 => slices_BinarySearch_int_p63 k (x7) (b16) (h)) (fun q15 => some (.pan q15, h))) (slices_BinarySearch_int_p63 k (x7) (false) (h))) (fun q12 => some (.pan q12, h)))) (slices_BinarySearch_int_p63 k (x7) (false) (h)) := nrfl (by kernel_rfl)
theorem slices_BinarySearch_int_p63_eq (k : Nat) (x4 : Int) (x5 : Bool) (h : Hp) : slices_BinarySearch_int_p63 k x4 x5 h = some (.ret (.tuple [(.rv (.int .i64 x4)), (.rv (.bool x5))]), h) := nrfl (by kernel_rfl)
theorem slices_BinarySearch_int_eq (k : Nat) (x0 : AV) (x1 : Int) (h : Hp) : fnA Try.prog slices_BinarySearch_int_G slices_BinarySearch_int_A slices_BinarySearch_int_R k Try.f49 [x0, (.rv (.int .i64 x1))] h = lna x0 fun n1 => slices_BinarySearch_int_l120 k k h.length x0 (x1) (n1) (0) (n1) (h) := nrfl (by kernel_rfl)
theorem slices_BinarySearch_int_good : Good Try.prog slices_BinarySearch_int_G := by
  intro f c hc
  unfold slices_BinarySearch_int_G at hc
  split at hc
  · cases hc; exact good_cmp_Less_int
  · cases hc; exact good_slices_isNaN_int
  · cases hc
noncomputable def F_slices_BinarySearch_int : List RV → Option Res := fun rs => pureR (fnA Try.prog slices_BinarySearch_int_G slices_BinarySearch_int_A slices_BinarySearch_int_R big Try.f49 (rs.map .rv) [])
theorem good_slices_BinarySearch_int : GoodC Try.prog 49 (.pure F_slices_BinarySearch_int) := goodP mixed slices_BinarySearch_int_good (by kernel_rfl : Try.prog.funcs[49]? = some Try.f49) rfl rfl (fun rs r h => ⟨big, h⟩)

/-! gantry/flow.deep -/
abbrev id_flow_deep : FuncId := 50
noncomputable def flow_deep_G : FuncId → Option Callee := fun f => match f with
  | _ => none
def flow_deep_A : Ann := [(15, [5]), (56, [0, 1, 5])]
def flow_deep_R : List Nat := []
noncomputable def flow_deep_c (k pos : Nat) : St → Cont (ARes × Hp) → Option (ARes × Hp) := acode Try.prog flow_deep_G flow_deep_A flow_deep_R k (cdAt (pathOf pos) (bodyOf Try.f50)) pos
def flow_deep_T56 (x0 : AV) (x1 : Int) (x5 : Int) : List AV := x0 :: (.rv (.int .i64 x1)) :: an 3 ((.rv (.int .i64 x5)) :: an 14 ([]))
def flow_deep_T15 (x5 : Int) : List AV := an 5 ((.rv (.int .i64 x5)) :: an 14 ([]))
noncomputable def flow_deep_K0 (k : Nat) : Cont (ARes × Hp) := seqK (flow_deep_c k 15) true (clrA flow_deep_A 15) (finA Try.prog Try.f50)
noncomputable def flow_deep_K1 (k : Nat) : Cont (ARes × Hp) := blkK 0 (flow_deep_K0 k)
noncomputable def flow_deep_l56 (k : Nat) (N56 M56 : Nat) (x0 : AV) (x1 : Int) (x5 : Int) (h : Hp) : Option (ARes × Hp) := aloop (flow_deep_c k 56) (clrA flow_deep_A 56) (trimOf flow_deep_R 56) M56 N56 ⟨flow_deep_T56 x0 x1 x5, h⟩ (flow_deep_K1 k)
noncomputable def flow_deep_p15 (k : Nat) (x5 : Int) (h : Hp) : Option (ARes × Hp) := pnt (flow_deep_c k 15) ⟨flow_deep_T15 x5, h⟩ (finA Try.prog Try.f50)
theorem flow_deep_l56_eq (k : Nat) (N56 M56 : Nat) (x0 : AV) (x1 : Int) (x5 : Int) (h : Hp) : flow_deep_l56 k (N56 + 1) M56 x0 x1 x5 h = ixa 4 x0 x1 fun p1 => pad p1 1 fun p2 => ldi .i64 h p2 fun n3 => bsp ((decide (n3 ≥ 0))) (ixa 4 x0 x1 fun p4 => pad p4 1 fun p5 => ldi .i64 h p5 fun n6 => flow_deep_l56 k N56 M56 x0 (n6) ((wri .i64 (x5 + 1))) (h)) (flow_deep_p15 k (x5) (h)) := nrfl (by kernel_rfl)
theorem flow_deep_p15_eq (k : Nat) (x5 : Int) (h : Hp) : flow_deep_p15 k x5 h = some (.ret (.rv (.int .i64 x5)), h) := nrfl (by kernel_rfl)
theorem flow_deep_eq (k : Nat) (x0 : AV) (x1 : Int) (h : Hp) : fnA Try.prog flow_deep_G flow_deep_A flow_deep_R k Try.f50 [x0, (.rv (.int .i64 x1))] h = flow_deep_l56 k k h.length x0 (x1) (1) (h) := nrfl (by kernel_rfl)
theorem flow_deep_good : Good Try.prog flow_deep_G := fun f c hc => by cases hc
noncomputable def G_flow_deep : List AV → Hp → Option (ARes × Hp) := fun xs h => fnA Try.prog flow_deep_G flow_deep_A flow_deep_R big Try.f50 xs h
theorem good_flow_deep : GoodC Try.prog 50 (.gen G_flow_deep) := goodG mixed flow_deep_good (by kernel_rfl : Try.prog.funcs[50]? = some Try.f50) rfl rfl (fun xs h x e => ⟨big, e⟩)

/-! gantry/ssa.NewTree -/
abbrev id_ssa_NewTree : FuncId := 44
noncomputable def ssa_NewTree_G : FuncId → Option Callee := fun f => match f with
  | _ => none
def ssa_NewTree_A : Ann := [(15, [0, 5]), (116, [0, 5, 15, 16, 17]), (255, [8]), (935, [0, 5, 15, 16, 17]), (1016, [5, 8, 9, 10])]
def ssa_NewTree_R : List Nat := []
noncomputable def ssa_NewTree_c (k pos : Nat) : St → Cont (ARes × Hp) → Option (ARes × Hp) := acode Try.prog ssa_NewTree_G ssa_NewTree_A ssa_NewTree_R k (cdAt (pathOf pos) (bodyOf Try.f44)) pos
def ssa_NewTree_T116 (x0 : AV) (x5 : AV) (x15 : AV) (x16 : Int) (x17 : Int) : List AV := x0 :: an 4 (x5 :: an 9 (x15 :: (.rv (.int .i64 x16)) :: (.rv (.int .i64 x17)) :: an 81 ([])))
def ssa_NewTree_T935 (x0 : AV) (x5 : AV) (x15 : AV) (x16 : Int) (x17 : Int) : List AV := x0 :: an 4 (x5 :: an 9 (x15 :: (.rv (.int .i64 x16)) :: (.rv (.int .i64 x17)) :: an 81 ([])))
def ssa_NewTree_T15 (x0 : AV) (x5 : AV) : List AV := x0 :: an 4 (x5 :: an 93 ([]))
def ssa_NewTree_T1016 (x5 : AV) (x8 : AV) (x9 : Int) (x10 : AV) : List AV := an 5 (x5 :: an 2 (x8 :: (.rv (.int .i64 x9)) :: x10 :: an 88 ([])))
def ssa_NewTree_T255 (x8 : AV) : List AV := an 8 (x8 :: an 90 ([]))
noncomputable def ssa_NewTree_K0 (k : Nat) : Cont (ARes × Hp) := seqK (ssa_NewTree_c k 15) true (clrA ssa_NewTree_A 15) (finA Try.prog Try.f44)
noncomputable def ssa_NewTree_K1 (k : Nat) : Cont (ARes × Hp) := blkK 0 (ssa_NewTree_K0 k)
noncomputable def ssa_NewTree_K2 (k : Nat) (N116 M116 : Nat) : Cont (ARes × Hp) := itK (aloop (ssa_NewTree_c k 116) (clrA ssa_NewTree_A 116) (trimOf ssa_NewTree_R 116) M116 N116) (clrA ssa_NewTree_A 116) (trimOf ssa_NewTree_R 116) M116 (ssa_NewTree_K1 k)
noncomputable def ssa_NewTree_K3 (k : Nat) : Cont (ARes × Hp) := seqK (ssa_NewTree_c k 255) true (clrA ssa_NewTree_A 255) (finA Try.prog Try.f44)
noncomputable def ssa_NewTree_K4 (k : Nat) : Cont (ARes × Hp) := blkK 2 (ssa_NewTree_K3 k)
noncomputable def ssa_NewTree_l116 (k : Nat) (N116 M116 : Nat) (x0 : AV) (x5 : AV) (x15 : AV) (x16 : Int) (x17 : Int) (h : Hp) : Option (ARes × Hp) := aloop (ssa_NewTree_c k 116) (clrA ssa_NewTree_A 116) (trimOf ssa_NewTree_R 116) M116 N116 ⟨ssa_NewTree_T116 x0 x5 x15 x16 x17, h⟩ (ssa_NewTree_K1 k)
noncomputable def ssa_NewTree_p935 (k : Nat) (N116 M116 : Nat) (x0 : AV) (x5 : AV) (x15 : AV) (x16 : Int) (x17 : Int) (h : Hp) : Option (ARes × Hp) := pnt (ssa_NewTree_c k 935) ⟨ssa_NewTree_T935 x0 x5 x15 x16 x17, h⟩ (ssa_NewTree_K2 k N116 M116)
noncomputable def ssa_NewTree_p15 (k : Nat) (x0 : AV) (x5 : AV) (h : Hp) : Option (ARes × Hp) := pnt (ssa_NewTree_c k 15) ⟨ssa_NewTree_T15 x0 x5, h⟩ (finA Try.prog Try.f44)
noncomputable def ssa_NewTree_l1016 (k : Nat) (N1016 M1016 : Nat) (x5 : AV) (x8 : AV) (x9 : Int) (x10 : AV) (h : Hp) : Option (ARes × Hp) := aloop (ssa_NewTree_c k 1016) (clrA ssa_NewTree_A 1016) (trimOf ssa_NewTree_R 1016) M1016 N1016 ⟨ssa_NewTree_T1016 x5 x8 x9 x10, h⟩ (ssa_NewTree_K4 k)
noncomputable def ssa_NewTree_p255 (k : Nat) (x8 : AV) (h : Hp) : Option (ARes × Hp) := pnt (ssa_NewTree_c k 255) ⟨ssa_NewTree_T255 x8, h⟩ (finA Try.prog Try.f44)
theorem ssa_NewTree_l116_eq (k : Nat) (N116 M116 : Nat) (x0 : AV) (x5 : AV) (x15 : AV) (x16 : Int) (x17 : Int) (h : Hp) : ssa_NewTree_l116 k (N116 + 1) M116 x0 x5 x15 x16 x17 h = bsp ((decide (x17 < x16))) (ixa 1 x15 x17 fun p5 => ldi .i64 h p5 fun n6 => ixa 1 x0 n6 fun p7 => ldi .i64 h p7 fun n8 => bsp ((decide (n8 ≥ 0))) (ixa 1 x0 n6 fun p9 => ldi .i64 h p9 fun n10 => ixa 1 x0 n6 fun p11 => ldi .i64 h p11 fun n12 => ixa 1 x5 n12 fun p13 => ldv h p13 fun v14 => bsl 1 1 [(.rv (.int .i64 0))] [(some (0, 1), (.rv (.int .i64 n6)))] h fun v15 h16 => sv1 h16 p9 (.rv (.int .i64 n10)) (sv1 h16 p11 (.rv (.int .i64 n12)) (sv1 h16 p13 v14 (apn 1 8 h16 v14 v15 fun v17 h18 => sv1 h18 p9 (.rv (.int .i64 n10)) (ixa 1 x5 n10 fun p19 => stv 1 h18 p19 v17 fun h20 => ssa_NewTree_p935 k N116 M116 x0 x5 x15 (x16) (x17) (h20)))))) (ssa_NewTree_p935 k N116 M116 x0 x5 x15 (x16) (x17) (h))) (ssa_NewTree_p15 k x0 x5 (h)) := nrfl (by kernel_rfl)
theorem ssa_NewTree_p935_eq (k : Nat) (N116 M116 : Nat) (x0 : AV) (x5 : AV) (x15 : AV) (x16 : Int) (x17 : Int) (h : Hp) : ssa_NewTree_p935 k N116 M116 x0 x5 x15 x16 x17 h = ssa_NewTree_l116 k N116 M116 x0 x5 x15 (x16) ((wri .i64 (x17 + 1))) (h) := nrfl (by kernel_rfl)
theorem ssa_NewTree_p15_eq (k : Nat) (x0 : AV) (x5 : AV) (h : Hp) : ssa_NewTree_p15 k x0 x5 h = lna x0 fun n21 => mks 1 8 [(.rv (.int .i64 0))] h n21 fun v22 h23 => lna x0 fun n24 => mks 1 8 [(.rv (.int .i64 0))] h23 n24 fun v25 h26 => bld [(.rv .nils), (.rv .nils)] [(some (0, 1), v22), (some (1, 1), v25)] fun v27 => nwc 1 (vcells v27) h26 fun p28 h29 => bsl 1 1 [(.rv (.int .i64 0))] [(some (0, 1), (.rv (.int .i64 0)))] h29 fun v30 h31 => ssa_NewTree_l1016 k k h31.length x5 p28 (0) v30 (h31) := nrfl (by kernel_rfl)
theorem ssa_NewTree_l1016_eq (k : Nat) (N1016 M1016 : Nat) (x5 : AV) (x8 : AV) (x9 : Int) (x10 : AV) (h : Hp) : ssa_NewTree_l1016 k (N1016 + 1) M1016 x5 x8 x9 x10 h = lna x10 fun n32 => bsp ((decide (n32 > 0))) (lna x10 fun n33 => ixa 1 x10 (wri .i64 (n33 - 1)) fun p34 => ldi .i64 h p34 fun n35 => lna x10 fun n36 => slc 1 h x10 none (some (wri .i64 (n36 - 1))) fun v37 => bsp ((decide (n35 < 0))) (nck x8 fun v38 => pad v38 1 fun p39 => ldv h p39 fun v40 => ixa 1 v40 (wri .i64 ((wri .i64 (0 - n35)) - 1)) fun p41 => stv 1 h p41 (.rv (.int .i64 x9)) fun h42 => ssa_NewTree_l1016 k N1016 M1016 x5 x8 (x9) v37 (h42)) (nck x8 fun v43 => pad v43 0 fun p44 => ldv h p44 fun v45 => ixa 1 v45 n35 fun p46 => stv 1 h p46 (.rv (.int .i64 (wri .i64 (x9 + 1)))) fun h47 => bsl 1 1 [(.rv (.int .i64 0))] [(some (0, 1), (.rv (.int .i64 (wri .i64 ((wri .i64 (0 - n35)) - 1)))))] h47 fun v48 h49 => apn 1 8 h49 v37 v48 fun v50 h51 => ixa 1 x5 n35 fun p52 => ldv h51 p52 fun v53 => apn 1 8 h51 v50 v53 fun v54 h55 => ssa_NewTree_l1016 k N1016 M1016 x5 x8 ((wri .i64 (x9 + 1))) v54 (h55))) (ssa_NewTree_p255 k x8 (h)) := nrfl (by kernel_rfl)
theorem ssa_NewTree_p255_eq (k : Nat) (x8 : AV) (h : Hp) : ssa_NewTree_p255 k x8 h = some (.ret x8, h) := nrfl (by kernel_rfl)
theorem ssa_NewTree_eq (k : Nat) (x0 : AV) (x1 : AV) (h : Hp) : fnA Try.prog ssa_NewTree_G ssa_NewTree_A ssa_NewTree_R k Try.f44 [x0, x1] h = lna x0 fun n1 => mks 1 24 [(.rv .nils)] h n1 fun v2 h3 => lna x1 fun n4 => ssa_NewTree_l116 k k h3.length x0 v2 x1 (n4) (0) (h3) := nrfl (by kernel_rfl)
theorem ssa_NewTree_good : Good Try.prog ssa_NewTree_G := fun f c hc => by cases hc
noncomputable def G_ssa_NewTree : List AV → Hp → Option (ARes × Hp) := fun xs h => fnA Try.prog ssa_NewTree_G ssa_NewTree_A ssa_NewTree_R big Try.f44 xs h
theorem good_ssa_NewTree : GoodC Try.prog 44 (.gen G_ssa_NewTree) := goodG mixed ssa_NewTree_good (by kernel_rfl : Try.prog.funcs[44]? = some Try.f44) rfl rfl (fun xs h x e => ⟨big, e⟩)

/-! gantry/flow.body -/
abbrev id_flow_body : FuncId := 48
noncomputable def flow_body_G : FuncId → Option Callee := fun f => match f with
  | 33 => some (.gen G_flow_set_add)
  | 47 => some (.gen G_ssa_Tree_Over)
  | 66 => some (.gen G_slices_Clone_int)
  | 67 => some (.gen sortG)
  | _ => none
def flow_body_A : Ann := [(31, [3, 4]), (63, [3]), (244, [1, 2, 3, 4, 31, 32, 33]), (500, [3, 4, 11]), (1959, [1, 2, 3, 4, 31, 32, 33]), (2003, [3, 4, 11]), (32036, [3, 4, 11, 65, 66, 67])]
def flow_body_R : List Nat := []
noncomputable def flow_body_c (k pos : Nat) : St → Cont (ARes × Hp) → Option (ARes × Hp) := acode Try.prog flow_body_G flow_body_A flow_body_R k (cdAt (pathOf pos) (bodyOf Try.f48)) pos
def flow_body_T244 (x1 : AV) (x2 : Int) (x3 : AV) (x4 : AV) (x31 : AV) (x32 : Int) (x33 : Int) : List AV := an 1 (x1 :: (.rv (.int .i64 x2)) :: x3 :: x4 :: an 26 (x31 :: (.rv (.int .i64 x32)) :: (.rv (.int .i64 x33)) :: an 49 ([])))
def flow_body_T1959 (x1 : AV) (x2 : Int) (x3 : AV) (x4 : AV) (x31 : AV) (x32 : Int) (x33 : Int) : List AV := an 1 (x1 :: (.rv (.int .i64 x2)) :: x3 :: x4 :: an 26 (x31 :: (.rv (.int .i64 x32)) :: (.rv (.int .i64 x33)) :: an 49 ([])))
def flow_body_T31 (x3 : AV) (x4 : AV) : List AV := an 3 (x3 :: x4 :: an 78 ([]))
def flow_body_T500 (x3 : AV) (x4 : AV) (x11 : Int) : List AV := an 3 (x3 :: x4 :: an 6 ((.rv (.int .i64 x11)) :: an 71 ([])))
def flow_body_T32036 (x3 : AV) (x4 : AV) (x11 : Int) (x65 : AV) (x66 : Int) (x67 : Int) : List AV := an 3 (x3 :: x4 :: an 6 ((.rv (.int .i64 x11)) :: an 53 (x65 :: (.rv (.int .i64 x66)) :: (.rv (.int .i64 x67)) :: an 15 ([]))))
def flow_body_T63 (x3 : AV) : List AV := an 3 (x3 :: an 79 ([]))
def flow_body_T2003 (x3 : AV) (x4 : AV) (x11 : Int) : List AV := an 3 (x3 :: x4 :: an 6 ((.rv (.int .i64 x11)) :: an 71 ([])))
noncomputable def flow_body_K0 (k : Nat) : Cont (ARes × Hp) := seqK (flow_body_c k 31) true (clrA flow_body_A 31) (finA Try.prog Try.f48)
noncomputable def flow_body_K1 (k : Nat) : Cont (ARes × Hp) := blkK 0 (flow_body_K0 k)
noncomputable def flow_body_K2 (k : Nat) (N244 M244 : Nat) : Cont (ARes × Hp) := itK (aloop (flow_body_c k 244) (clrA flow_body_A 244) (trimOf flow_body_R 244) M244 N244) (clrA flow_body_A 244) (trimOf flow_body_R 244) M244 (flow_body_K1 k)
noncomputable def flow_body_K3 (k : Nat) : Cont (ARes × Hp) := seqK (flow_body_c k 63) true (clrA flow_body_A 63) (finA Try.prog Try.f48)
noncomputable def flow_body_K4 (k : Nat) : Cont (ARes × Hp) := blkK 2 (flow_body_K3 k)
noncomputable def flow_body_K5 (k : Nat) (N500 M500 : Nat) : Cont (ARes × Hp) := itK (aloop (flow_body_c k 500) (clrA flow_body_A 500) (trimOf flow_body_R 500) M500 N500) (clrA flow_body_A 500) (trimOf flow_body_R 500) M500 (flow_body_K4 k)
noncomputable def flow_body_K6 (k : Nat) (N500 M500 : Nat) : Cont (ARes × Hp) := seqK (flow_body_c k 2003) true (clrA flow_body_A 2003) (flow_body_K5 k N500 M500)
noncomputable def flow_body_K7 (k : Nat) (N500 M500 : Nat) : Cont (ARes × Hp) := blkK 3 (flow_body_K6 k N500 M500)
noncomputable def flow_body_K8 (k : Nat) (N500 M500 : Nat) : Cont (ARes × Hp) := blkK 4 (flow_body_K7 k N500 M500)
noncomputable def flow_body_l244 (k : Nat) (N244 M244 : Nat) (x1 : AV) (x2 : Int) (x3 : AV) (x4 : AV) (x31 : AV) (x32 : Int) (x33 : Int) (h : Hp) : Option (ARes × Hp) := aloop (flow_body_c k 244) (clrA flow_body_A 244) (trimOf flow_body_R 244) M244 N244 ⟨flow_body_T244 x1 x2 x3 x4 x31 x32 x33, h⟩ (flow_body_K1 k)
noncomputable def flow_body_p1959 (k : Nat) (N244 M244 : Nat) (x1 : AV) (x2 : Int) (x3 : AV) (x4 : AV) (x31 : AV) (x32 : Int) (x33 : Int) (h : Hp) : Option (ARes × Hp) := pnt (flow_body_c k 1959) ⟨flow_body_T1959 x1 x2 x3 x4 x31 x32 x33, h⟩ (flow_body_K2 k N244 M244)
noncomputable def flow_body_p31 (k : Nat) (x3 : AV) (x4 : AV) (h : Hp) : Option (ARes × Hp) := pnt (flow_body_c k 31) ⟨flow_body_T31 x3 x4, h⟩ (finA Try.prog Try.f48)
noncomputable def flow_body_l500 (k : Nat) (N500 M500 : Nat) (x3 : AV) (x4 : AV) (x11 : Int) (h : Hp) : Option (ARes × Hp) := aloop (flow_body_c k 500) (clrA flow_body_A 500) (trimOf flow_body_R 500) M500 N500 ⟨flow_body_T500 x3 x4 x11, h⟩ (flow_body_K4 k)
noncomputable def flow_body_l32036 (k : Nat) (N500 M500 : Nat) (N32036 M32036 : Nat) (x3 : AV) (x4 : AV) (x11 : Int) (x65 : AV) (x66 : Int) (x67 : Int) (h : Hp) : Option (ARes × Hp) := aloop (flow_body_c k 32036) (clrA flow_body_A 32036) (trimOf flow_body_R 32036) M32036 N32036 ⟨flow_body_T32036 x3 x4 x11 x65 x66 x67, h⟩ (flow_body_K8 k N500 M500)
noncomputable def flow_body_p63 (k : Nat) (x3 : AV) (h : Hp) : Option (ARes × Hp) := pnt (flow_body_c k 63) ⟨flow_body_T63 x3, h⟩ (finA Try.prog Try.f48)
noncomputable def flow_body_p2003 (k : Nat) (N500 M500 : Nat) (x3 : AV) (x4 : AV) (x11 : Int) (h : Hp) : Option (ARes × Hp) := pnt (flow_body_c k 2003) ⟨flow_body_T2003 x3 x4 x11, h⟩ (flow_body_K5 k N500 M500)
theorem flow_body_l244_eq (k : Nat) (N244 M244 : Nat) (x1 : AV) (x2 : Int) (x3 : AV) (x4 : AV) (x31 : AV) (x32 : Int) (x33 : Int) (h : Hp) : flow_body_l244 k (N244 + 1) M244 x1 x2 x3 x4 x31 x32 x33 h = bsp ((decide (x33 < x32))) (ixa 1 x31 x33 fun p20 => ldi .i64 h p20 fun n21 => callG G_ssa_Tree_Over h [x1, (.rv (.int .i64 x2)), (.rv (.int .i64 n21))] (fun r22 h24 => asBool r22 fun b26 => bsp (b26) (callG G_flow_set_add h24 [x3, (.rv (.int .i64 n21))] (fun r27 h29 => flow_body_p1959 k N244 M244 x1 (x2) x3 x4 x31 (x32) (x33) (h29)) (fun q28 h30 => some (.pan q28, h30))) (flow_body_p1959 k N244 M244 x1 (x2) x3 x4 x31 (x32) (x33) (h24))) (fun q23 h25 => some (.pan q23, h25))) (flow_body_p31 k x3 x4 (h)) := nrfl (by kernel_rfl)
theorem flow_body_p1959_eq (k : Nat) (N244 M244 : Nat) (x1 : AV) (x2 : Int) (x3 : AV) (x4 : AV) (x31 : AV) (x32 : Int) (x33 : Int) (h : Hp) : flow_body_p1959 k N244 M244 x1 x2 x3 x4 x31 x32 x33 h = flow_body_l244 k N244 M244 x1 (x2) x3 x4 x31 (x32) ((wri .i64 (x33 + 1))) (h) := nrfl (by kernel_rfl)
theorem flow_body_p31_eq (k : Nat) (x3 : AV) (x4 : AV) (h : Hp) : flow_body_p31 k x3 x4 h = flow_body_l500 k k h.length x3 x4 (1) (h) := nrfl (by kernel_rfl)
theorem flow_body_l500_eq (k : Nat) (N500 M500 : Nat) (x3 : AV) (x4 : AV) (x11 : Int) (h : Hp) : flow_body_l500 k (N500 + 1) M500 x3 x4 x11 h = nck x3 fun v31 => pad v31 0 fun p32 => ldv h p32 fun v33 => lna v33 fun n34 => bsp ((decide (x11 < n34))) (pad x4 3 fun p35 => ldv h p35 fun v36 => nck x3 fun v37 => pad v37 0 fun p38 => ldv h p38 fun v39 => ixa 1 v39 x11 fun p40 => ldi .i64 h p40 fun n41 => ixa 6 v36 n41 fun p42 => pad p42 3 fun p43 => ldv h p43 fun v44 => lna v44 fun n45 => flow_body_l32036 k N500 M500 k h.length x3 x4 (x11) v44 (n45) (0) (h)) (flow_body_p63 k x3 (h)) := nrfl (by kernel_rfl)
theorem flow_body_l32036_eq (k : Nat) (N500 M500 : Nat) (N32036 M32036 : Nat) (x3 : AV) (x4 : AV) (x11 : Int) (x65 : AV) (x66 : Int) (x67 : Int) (h : Hp) : flow_body_l32036 k N500 M500 (N32036 + 1) M32036 x3 x4 x11 x65 x66 x67 h = bsp ((decide (x67 < x66))) (ixa 1 x65 x67 fun p46 => ldi .i64 h p46 fun n47 => callG G_flow_set_add h [x3, (.rv (.int .i64 n47))] (fun r48 h50 => flow_body_l32036 k N500 M500 N32036 M32036 x3 x4 (x11) x65 (x66) ((wri .i64 (x67 + 1))) (h50)) (fun q49 h51 => some (.pan q49, h51))) (flow_body_p2003 k N500 M500 x3 x4 (x11) (h)) := nrfl (by kernel_rfl)
theorem flow_body_p63_eq (k : Nat) (x3 : AV) (h : Hp) : flow_body_p63 k x3 h = nck x3 fun v52 => pad v52 0 fun p53 => ldv h p53 fun v54 => callG G_slices_Clone_int h [v54] (fun r55 h57 => callG sortG h57 [r55] (fun r59 h61 => some (.ret r55, h61)) (fun q60 h62 => some (.pan q60, h62))) (fun q56 h58 => some (.pan q56, h58)) := nrfl (by kernel_rfl)
theorem flow_body_p2003_eq (k : Nat) (N500 M500 : Nat) (x3 : AV) (x4 : AV) (x11 : Int) (h : Hp) : flow_body_p2003 k N500 M500 x3 x4 x11 h = flow_body_l500 k N500 M500 x3 x4 ((wri .i64 (x11 + 1))) (h) := nrfl (by kernel_rfl)
theorem flow_body_eq (k : Nat) (x0 : AV) (x1 : AV) (x2 : Int) (x3 : AV) (h : Hp) : fnA Try.prog flow_body_G flow_body_A flow_body_R k Try.f48 [x0, x1, (.rv (.int .i64 x2)), x3] h = nwc 1 (vcells x0) h fun p1 h2 => nck x3 fun v3 => pad v3 0 fun p4 => ldv h2 p4 fun v5 => slc 1 h2 v5 none (some 0) fun v6 => nck x3 fun v7 => pad v7 0 fun p8 => stv 1 h2 p8 v6 fun h9 => callG G_flow_set_add h9 [x3, (.rv (.int .i64 x2))] (fun r10 h12 => pad p1 3 fun p14 => ldv h12 p14 fun v15 => ixa 6 v15 x2 fun p16 => pad p16 3 fun p17 => ldv h12 p17 fun v18 => lna v18 fun n19 => flow_body_l244 k k h12.length x1 (x2) x3 p1 v18 (n19) (0) (h12)) (fun q11 h13 => some (.pan q11, h13)) := nrfl (by kernel_rfl)
theorem flow_body_good : Good Try.prog flow_body_G := by
  intro f c hc
  unfold flow_body_G at hc
  split at hc
  · cases hc; exact good_flow_set_add
  · cases hc; exact good_ssa_Tree_Over
  · cases hc; exact good_slices_Clone_int
  · cases hc; exact good_slices_Sort_int
  · cases hc
noncomputable def G_flow_body : List AV → Hp → Option (ARes × Hp) := fun xs h => fnA Try.prog flow_body_G flow_body_A flow_body_R big Try.f48 xs h
theorem good_flow_body : GoodC Try.prog 48 (.gen G_flow_body) := goodG mixed flow_body_good (by kernel_rfl : Try.prog.funcs[48]? = some Try.f48) rfl rfl (fun xs h x e => ⟨big, e⟩)

/-! gantry/flow.Loops -/
abbrev id_flow_Loops : FuncId := 18
noncomputable def flow_Loops_G : FuncId → Option Callee := fun f => match f with
  | 31 => some (.pure F_ssa_Flow)
  | 42 => some (.pure F_ssa_Doms)
  | 43 => some (.pure F_ssa_Post)
  | 44 => some (.gen G_ssa_NewTree)
  | 45 => some (.gen G_slices_ContainsFunc_int)
  | 48 => some (.gen G_flow_body)
  | 49 => some (.pure F_slices_BinarySearch_int)
  | 50 => some (.gen G_flow_deep)
  | _ => none
def flow_Loops_A : Ann := [(255, [8]), (511, [8]), (1023, [8]), (2036, [1, 6, 7, 8, 35, 36, 37]), (4084, [8, 58, 59]), (8180, [8, 122, 123]), (16295, [1, 6, 7, 8, 35, 36, 37]), (32679, [8, 58, 59]), (1045708, [8, 11, 58, 59, 63, 64]), (8365671, [8, 11, 58, 59, 63, 64]), (133850727, [8, 11, 12, 58, 59, 63, 64, 113])]
def flow_Loops_R : List Nat := []
noncomputable def flow_Loops_c (k pos : Nat) : St → Cont (ARes × Hp) → Option (ARes × Hp) := acode Try.prog flow_Loops_G flow_Loops_A flow_Loops_R k (cdAt (pathOf pos) (bodyOf Try.f18)) pos
def flow_Loops_T2036 (x1 : AV) (x6 : AV) (x7 : AV) (x8 : AV) (x35 : AV) (x36 : Int) (x37 : Int) : List AV := an 1 (x1 :: an 4 (x6 :: x7 :: x8 :: an 26 (x35 :: (.rv (.int .i64 x36)) :: (.rv (.int .i64 x37)) :: an 97 ([]))))
def flow_Loops_T16295 (x1 : AV) (x6 : AV) (x7 : AV) (x8 : AV) (x35 : AV) (x36 : Int) (x37 : Int) : List AV := an 1 (x1 :: an 4 (x6 :: x7 :: x8 :: an 26 (x35 :: (.rv (.int .i64 x36)) :: (.rv (.int .i64 x37)) :: an 97 ([]))))
def flow_Loops_T255 (x8 : AV) : List AV := an 8 (x8 :: an 126 ([]))
def flow_Loops_T4084 (x8 : AV) (x58 : Int) (x59 : Int) : List AV := an 8 (x8 :: an 49 ((.rv (.int .i64 x58)) :: (.rv (.int .i64 x59)) :: an 75 ([])))
def flow_Loops_T1045708 (x8 : AV) (x11 : Int) (x58 : Int) (x59 : Int) (x63 : Int) (x64 : Int) : List AV := an 8 (x8 :: an 2 ((.rv (.int .i64 x11)) :: an 46 ((.rv (.int .i64 x58)) :: (.rv (.int .i64 x59)) :: an 3 ((.rv (.int .i64 x63)) :: (.rv (.int .i64 x64)) :: an 70 ([])))))
def flow_Loops_T511 (x8 : AV) : List AV := an 8 (x8 :: an 126 ([]))
def flow_Loops_T133850727 (x8 : AV) (x11 : Int) (x12 : Int) (x58 : Int) (x59 : Int) (x63 : Int) (x64 : Int) (x113 : Bool) : List AV := an 8 (x8 :: an 2 ((.rv (.int .i64 x11)) :: (.rv (.int .i64 x12)) :: an 45 ((.rv (.int .i64 x58)) :: (.rv (.int .i64 x59)) :: an 3 ((.rv (.int .i64 x63)) :: (.rv (.int .i64 x64)) :: an 48 ((.rv (.bool x113)) :: an 21 ([]))))))
def flow_Loops_T32679 (x8 : AV) (x58 : Int) (x59 : Int) : List AV := an 8 (x8 :: an 49 ((.rv (.int .i64 x58)) :: (.rv (.int .i64 x59)) :: an 75 ([])))
def flow_Loops_T8180 (x8 : AV) (x122 : Int) (x123 : Int) : List AV := an 8 (x8 :: an 113 ((.rv (.int .i64 x122)) :: (.rv (.int .i64 x123)) :: an 11 ([])))
def flow_Loops_T8365671 (x8 : AV) (x11 : Int) (x58 : Int) (x59 : Int) (x63 : Int) (x64 : Int) : List AV := an 8 (x8 :: an 2 ((.rv (.int .i64 x11)) :: an 46 ((.rv (.int .i64 x58)) :: (.rv (.int .i64 x59)) :: an 3 ((.rv (.int .i64 x63)) :: (.rv (.int .i64 x64)) :: an 70 ([])))))
def flow_Loops_T1023 (x8 : AV) : List AV := an 8 (x8 :: an 126 ([]))
noncomputable def flow_Loops_K0 (k : Nat) : Cont (ARes × Hp) := seqK (flow_Loops_c k 255) true (clrA flow_Loops_A 255) (finA Try.prog Try.f18)
noncomputable def flow_Loops_K1 (k : Nat) : Cont (ARes × Hp) := blkK 0 (flow_Loops_K0 k)
noncomputable def flow_Loops_K2 (k : Nat) (N2036 M2036 : Nat) : Cont (ARes × Hp) := itK (aloop (flow_Loops_c k 2036) (clrA flow_Loops_A 2036) (trimOf flow_Loops_R 2036) M2036 N2036) (clrA flow_Loops_A 2036) (trimOf flow_Loops_R 2036) M2036 (flow_Loops_K1 k)
noncomputable def flow_Loops_K3 (k : Nat) : Cont (ARes × Hp) := seqK (flow_Loops_c k 511) true (clrA flow_Loops_A 511) (finA Try.prog Try.f18)
noncomputable def flow_Loops_K4 (k : Nat) : Cont (ARes × Hp) := blkK 2 (flow_Loops_K3 k)
noncomputable def flow_Loops_K5 (k : Nat) (N4084 M4084 : Nat) : Cont (ARes × Hp) := itK (aloop (flow_Loops_c k 4084) (clrA flow_Loops_A 4084) (trimOf flow_Loops_R 4084) M4084 N4084) (clrA flow_Loops_A 4084) (trimOf flow_Loops_R 4084) M4084 (flow_Loops_K4 k)
noncomputable def flow_Loops_K6 (k : Nat) (N4084 M4084 : Nat) : Cont (ARes × Hp) := seqK (flow_Loops_c k 32679) true (clrA flow_Loops_A 32679) (flow_Loops_K5 k N4084 M4084)
noncomputable def flow_Loops_K7 (k : Nat) (N4084 M4084 : Nat) : Cont (ARes × Hp) := blkK 3 (flow_Loops_K6 k N4084 M4084)
noncomputable def flow_Loops_K8 (k : Nat) (N4084 M4084 : Nat) : Cont (ARes × Hp) := blkK 4 (flow_Loops_K7 k N4084 M4084)
noncomputable def flow_Loops_K9 (k : Nat) (N4084 M4084 : Nat) (N1045708 M1045708 : Nat) : Cont (ARes × Hp) := itK (aloop (flow_Loops_c k 1045708) (clrA flow_Loops_A 1045708) (trimOf flow_Loops_R 1045708) M1045708 N1045708) (clrA flow_Loops_A 1045708) (trimOf flow_Loops_R 1045708) M1045708 (flow_Loops_K8 k N4084 M4084)
noncomputable def flow_Loops_K10 (k : Nat) (N4084 M4084 : Nat) (N1045708 M1045708 : Nat) : Cont (ARes × Hp) := seqK (flow_Loops_c k 8365671) true (clrA flow_Loops_A 8365671) (flow_Loops_K9 k N4084 M4084 N1045708 M1045708)
noncomputable def flow_Loops_K11 (k : Nat) (N4084 M4084 : Nat) (N1045708 M1045708 : Nat) : Cont (ARes × Hp) := blkK 5 (flow_Loops_K10 k N4084 M4084 N1045708 M1045708)
noncomputable def flow_Loops_K12 (k : Nat) : Cont (ARes × Hp) := seqK (flow_Loops_c k 1023) true (clrA flow_Loops_A 1023) (finA Try.prog Try.f18)
noncomputable def flow_Loops_K13 (k : Nat) : Cont (ARes × Hp) := blkK 6 (flow_Loops_K12 k)
noncomputable def flow_Loops_l2036 (k : Nat) (N2036 M2036 : Nat) (x1 : AV) (x6 : AV) (x7 : AV) (x8 : AV) (x35 : AV) (x36 : Int) (x37 : Int) (h : Hp) : Option (ARes × Hp) := aloop (flow_Loops_c k 2036) (clrA flow_Loops_A 2036) (trimOf flow_Loops_R 2036) M2036 N2036 ⟨flow_Loops_T2036 x1 x6 x7 x8 x35 x36 x37, h⟩ (flow_Loops_K1 k)
noncomputable def flow_Loops_p16295 (k : Nat) (N2036 M2036 : Nat) (x1 : AV) (x6 : AV) (x7 : AV) (x8 : AV) (x35 : AV) (x36 : Int) (x37 : Int) (h : Hp) : Option (ARes × Hp) := pnt (flow_Loops_c k 16295) ⟨flow_Loops_T16295 x1 x6 x7 x8 x35 x36 x37, h⟩ (flow_Loops_K2 k N2036 M2036)
noncomputable def flow_Loops_p255 (k : Nat) (x8 : AV) (h : Hp) : Option (ARes × Hp) := pnt (flow_Loops_c k 255) ⟨flow_Loops_T255 x8, h⟩ (finA Try.prog Try.f18)
noncomputable def flow_Loops_l4084 (k : Nat) (N4084 M4084 : Nat) (x8 : AV) (x58 : Int) (x59 : Int) (h : Hp) : Option (ARes × Hp) := aloop (flow_Loops_c k 4084) (clrA flow_Loops_A 4084) (trimOf flow_Loops_R 4084) M4084 N4084 ⟨flow_Loops_T4084 x8 x58 x59, h⟩ (flow_Loops_K4 k)
noncomputable def flow_Loops_l1045708 (k : Nat) (N4084 M4084 : Nat) (N1045708 M1045708 : Nat) (x8 : AV) (x11 : Int) (x58 : Int) (x59 : Int) (x63 : Int) (x64 : Int) (h : Hp) : Option (ARes × Hp) := aloop (flow_Loops_c k 1045708) (clrA flow_Loops_A 1045708) (trimOf flow_Loops_R 1045708) M1045708 N1045708 ⟨flow_Loops_T1045708 x8 x11 x58 x59 x63 x64, h⟩ (flow_Loops_K8 k N4084 M4084)
noncomputable def flow_Loops_p511 (k : Nat) (x8 : AV) (h : Hp) : Option (ARes × Hp) := pnt (flow_Loops_c k 511) ⟨flow_Loops_T511 x8, h⟩ (finA Try.prog Try.f18)
noncomputable def flow_Loops_p133850727 (k : Nat) (N4084 M4084 : Nat) (N1045708 M1045708 : Nat) (x8 : AV) (x11 : Int) (x12 : Int) (x58 : Int) (x59 : Int) (x63 : Int) (x64 : Int) (x113 : Bool) (h : Hp) : Option (ARes × Hp) := pnt (flow_Loops_c k 133850727) ⟨flow_Loops_T133850727 x8 x11 x12 x58 x59 x63 x64 x113, h⟩ (flow_Loops_K11 k N4084 M4084 N1045708 M1045708)
noncomputable def flow_Loops_p32679 (k : Nat) (N4084 M4084 : Nat) (x8 : AV) (x58 : Int) (x59 : Int) (h : Hp) : Option (ARes × Hp) := pnt (flow_Loops_c k 32679) ⟨flow_Loops_T32679 x8 x58 x59, h⟩ (flow_Loops_K5 k N4084 M4084)
noncomputable def flow_Loops_l8180 (k : Nat) (N8180 M8180 : Nat) (x8 : AV) (x122 : Int) (x123 : Int) (h : Hp) : Option (ARes × Hp) := aloop (flow_Loops_c k 8180) (clrA flow_Loops_A 8180) (trimOf flow_Loops_R 8180) M8180 N8180 ⟨flow_Loops_T8180 x8 x122 x123, h⟩ (flow_Loops_K13 k)
noncomputable def flow_Loops_p8365671 (k : Nat) (N4084 M4084 : Nat) (N1045708 M1045708 : Nat) (x8 : AV) (x11 : Int) (x58 : Int) (x59 : Int) (x63 : Int) (x64 : Int) (h : Hp) : Option (ARes × Hp) := pnt (flow_Loops_c k 8365671) ⟨flow_Loops_T8365671 x8 x11 x58 x59 x63 x64, h⟩ (flow_Loops_K9 k N4084 M4084 N1045708 M1045708)
noncomputable def flow_Loops_p1023 (k : Nat) (x8 : AV) (h : Hp) : Option (ARes × Hp) := pnt (flow_Loops_c k 1023) ⟨flow_Loops_T1023 x8, h⟩ (finA Try.prog Try.f18)
theorem flow_Loops_l2036_eq (k : Nat) (N2036 M2036 : Nat) (x1 : AV) (x6 : AV) (x7 : AV) (x8 : AV) (x35 : AV) (x36 : Int) (x37 : Int) (h : Hp) : flow_Loops_l2036 k (N2036 + 1) M2036 x1 x6 x7 x8 x35 x36 x37 h = bsp ((decide (x37 < x36))) (ixa 6 x35 x37 fun p31 => ldg 6 h p31 fun v32 => nwc 1 (some [(.rv (.int .i64 0))]) h fun p33 h34 => nwc 1 (some [(.rv (.int .i64 0)), (.rv (.int .i64 0)), (.rv .nils), (.rv .nils), (.rv .nils), (.rv .nils)]) h34 fun p35 h36 => stv 1 h36 p33 (.rv (.int .i64 x37)) fun h37 => stv 6 h37 p35 v32 fun h38 => pad p35 3 fun p39 => ldv h38 p39 fun v40 => callG G_slices_ContainsFunc_int h38 [v40, (.func id_flow_Loops_c1 [] [x6, p33])] (fun r41 h43 => asBool r41 fun b45 => bsp (b45) (ldi .i64 h43 p33 fun n46 => ldg 4 h43 x1 fun v47 => ldv h43 x6 fun v48 => ldi .i64 h43 p33 fun n49 => callG G_flow_body h43 [v47, v48, (.rv (.int .i64 n49)), x7] (fun r50 h52 => sv1 h52 p33 (.rv (.int .i64 n46)) (bld [(.rv (.int .i64 0)), (.rv (.int .i64 0)), (.rv (.int .i64 0)), (.rv .nils)] [(some (0, 1), (.rv (.int .i64 n46))), (some (1, 1), (.rv (.int .i64 (-1)))), (some (3, 1), r50)] fun v54 => bsl 4 1 [(.rv (.int .i64 0)), (.rv (.int .i64 0)), (.rv (.int .i64 0)), (.rv .nils)] [(some (0, 4), v54)] h52 fun v55 h56 => apn 4 48 h56 x8 v55 fun v57 h58 => flow_Loops_p16295 k N2036 M2036 x1 x6 x7 v57 x35 (x36) (x37) (h58))) (fun q51 h53 => none)) (flow_Loops_p16295 k N2036 M2036 x1 x6 x7 x8 x35 (x36) (x37) (h43))) (fun q42 h44 => some (.pan q42, h44))) (flow_Loops_p255 k x8 (h)) := nrfl (by kernel_rfl)
theorem flow_Loops_p16295_eq (k : Nat) (N2036 M2036 : Nat) (x1 : AV) (x6 : AV) (x7 : AV) (x8 : AV) (x35 : AV) (x36 : Int) (x37 : Int) (h : Hp) : flow_Loops_p16295 k N2036 M2036 x1 x6 x7 x8 x35 x36 x37 h = flow_Loops_l2036 k N2036 M2036 x1 x6 x7 x8 x35 (x36) ((wri .i64 (x37 + 1))) (h) := nrfl (by kernel_rfl)
theorem flow_Loops_p255_eq (k : Nat) (x8 : AV) (h : Hp) : flow_Loops_p255 k x8 h = lna x8 fun n59 => flow_Loops_l4084 k k h.length x8 (n59) (0) (h) := nrfl (by kernel_rfl)
theorem flow_Loops_l4084_eq (k : Nat) (N4084 M4084 : Nat) (x8 : AV) (x58 : Int) (x59 : Int) (h : Hp) : flow_Loops_l4084 k (N4084 + 1) M4084 x8 x58 x59 h = bsp ((decide (x59 < x58))) (lna x8 fun n60 => flow_Loops_l1045708 k N4084 M4084 k h.length x8 (x59) (x58) (x59) (n60) (0) (h)) (flow_Loops_p511 k x8 (h)) := nrfl (by kernel_rfl)
theorem flow_Loops_l1045708_eq (k : Nat) (N4084 M4084 : Nat) (N1045708 M1045708 : Nat) (x8 : AV) (x11 : Int) (x58 : Int) (x59 : Int) (x63 : Int) (x64 : Int) (h : Hp) : flow_Loops_l1045708 k N4084 M4084 (N1045708 + 1) M1045708 x8 x11 x58 x59 x63 x64 h = bsp ((decide (x64 < x63))) (ixa 4 x8 x64 fun p61 => pad p61 3 fun p62 => ldv h p62 fun v63 => ixa 4 x8 x11 fun p64 => pad p64 0 fun p65 => ldi .i64 h p65 fun n66 => callP F_slices_BinarySearch_int h [v63, (.rv (.int .i64 n66))] (fun r67 => xtr r67 0 fun v69 => asInt .i64 v69 fun n70 => xtr r67 1 fun v71 => asBool v71 fun b72 => bsp ((x64 != x11)) (bsp (b72) (ixa 4 x8 x11 fun p73 => pad p73 1 fun p74 => ldi .i64 h p74 fun n75 => bsp ((decide (n75 < 0))) (flow_Loops_p133850727 k N4084 M4084 N1045708 M1045708 x8 (x11) (x64) (x58) (x59) (x63) (x64) (true) (h)) (ixa 4 x8 x64 fun p76 => pad p76 3 fun p77 => ldv h p77 fun v78 => lna v78 fun n79 => ixa 4 x8 x11 fun p80 => pad p80 1 fun p81 => ldi .i64 h p81 fun n82 => ixa 4 x8 n82 fun p83 => pad p83 3 fun p84 => ldv h p84 fun v85 => lna v85 fun n86 => flow_Loops_p133850727 k N4084 M4084 N1045708 M1045708 x8 (x11) (x64) (x58) (x59) (x63) (x64) ((decide (n79 < n86))) (h))) (flow_Loops_p133850727 k N4084 M4084 N1045708 M1045708 x8 (x11) (x64) (x58) (x59) (x63) (x64) (false) (h))) (flow_Loops_p133850727 k N4084 M4084 N1045708 M1045708 x8 (x11) (x64) (x58) (x59) (x63) (x64) (false) (h))) (fun q68 => none)) (flow_Loops_p32679 k N4084 M4084 x8 (x58) (x59) (h)) := nrfl (by kernel_rfl)
theorem flow_Loops_p511_eq (k : Nat) (x8 : AV) (h : Hp) : flow_Loops_p511 k x8 h = lna x8 fun n87 => flow_Loops_l8180 k k h.length x8 (n87) (0) (h) := nrfl (by kernel_rfl)
theorem flow_Loops_p133850727_eq (k : Nat) (N4084 M4084 : Nat) (N1045708 M1045708 : Nat) (x8 : AV) (x11 : Int) (x12 : Int) (x58 : Int) (x59 : Int) (x63 : Int) (x64 : Int) (x113 : Bool) (h : Hp) : flow_Loops_p133850727 k N4084 M4084 N1045708 M1045708 x8 x11 x12 x58 x59 x63 x64 x113 h = bsp (x113) (ixa 4 x8 x11 fun p88 => pad p88 1 fun p89 => stv 1 h p89 (.rv (.int .i64 x12)) fun h90 => flow_Loops_p8365671 k N4084 M4084 N1045708 M1045708 x8 (x11) (x58) (x59) (x63) (x64) (h90)) (flow_Loops_p8365671 k N4084 M4084 N1045708 M1045708 x8 (x11) (x58) (x59) (x63) (x64) (h)) := nrfl (by kernel_rfl)
theorem flow_Loops_p32679_eq (k : Nat) (N4084 M4084 : Nat) (x8 : AV) (x58 : Int) (x59 : Int) (h : Hp) : flow_Loops_p32679 k N4084 M4084 x8 x58 x59 h = flow_Loops_l4084 k N4084 M4084 x8 (x58) ((wri .i64 (x59 + 1))) (h) := nrfl (by kernel_rfl)
theorem flow_Loops_l8180_eq (k : Nat) (N8180 M8180 : Nat) (x8 : AV) (x122 : Int) (x123 : Int) (h : Hp) : flow_Loops_l8180 k (N8180 + 1) M8180 x8 x122 x123 h = bsp ((decide (x123 < x122))) (callG G_flow_deep h [x8, (.rv (.int .i64 x123))] (fun r91 h93 => asInt .i64 r91 fun n95 => ixa 4 x8 x123 fun p96 => pad p96 2 fun p97 => stv 1 h93 p97 (.rv (.int .i64 n95)) fun h98 => flow_Loops_l8180 k N8180 M8180 x8 (x122) ((wri .i64 (x123 + 1))) (h98)) (fun q92 h94 => some (.pan q92, h94))) (flow_Loops_p1023 k x8 (h)) := nrfl (by kernel_rfl)
theorem flow_Loops_p8365671_eq (k : Nat) (N4084 M4084 : Nat) (N1045708 M1045708 : Nat) (x8 : AV) (x11 : Int) (x58 : Int) (x59 : Int) (x63 : Int) (x64 : Int) (h : Hp) : flow_Loops_p8365671 k N4084 M4084 N1045708 M1045708 x8 x11 x58 x59 x63 x64 h = flow_Loops_l1045708 k N4084 M4084 N1045708 M1045708 x8 (x11) (x58) (x59) (x63) ((wri .i64 (x64 + 1))) (h) := nrfl (by kernel_rfl)
theorem flow_Loops_p1023_eq (k : Nat) (x8 : AV) (h : Hp) : flow_Loops_p1023 k x8 h = some (.ret (.tuple [x8, (.rv (.int .i64 0))]), h) := nrfl (by kernel_rfl)
theorem flow_Loops_eq (k : Nat) (x0 : AV) (h : Hp) : fnA Try.prog flow_Loops_G flow_Loops_A flow_Loops_R k Try.f18 [x0] h = nwc 1 (vcells x0) h fun p1 h2 => ldg 4 h2 p1 fun v3 => callP F_ssa_Flow h2 [v3] (fun r4 => asInt .i64 r4 fun n6 => bsp ((n6 != 0)) (some (.ret (.tuple [(.rv .nils), (.rv (.int .i64 n6))]), h2)) (ldg 4 h2 p1 fun v7 => callP F_ssa_Post h2 [v7] (fun r8 => ldg 4 h2 p1 fun v10 => callP F_ssa_Doms h2 [v10, r8] (fun r11 => callG G_ssa_NewTree h2 [r11, r8] (fun r13 h15 => nwc 1 (some [(.rv .nilp)]) h15 fun p17 h18 => stv 1 h18 p17 r13 fun h19 => pad p1 3 fun p20 => ldv h19 p20 fun v21 => lna v21 fun n22 => mks 1 8 [(.rv (.int .i64 0))] h19 n22 fun v23 h24 => bld [(.rv .nils), (.rv .nils)] [(some (1, 1), v23)] fun v25 => nwc 1 (vcells v25) h24 fun p26 h27 => pad p1 3 fun p28 => ldv h27 p28 fun v29 => lna v29 fun n30 => flow_Loops_l2036 k k h27.length p1 p17 p26 (.rv .nils) v29 (n30) (0) (h27)) (fun q14 h16 => some (.pan q14, h16))) (fun q12 => some (.pan q12, h2))) (fun q9 => some (.pan q9, h2)))) (fun q5 => some (.pan q5, h2)) := nrfl (by kernel_rfl)
theorem flow_Loops_good : Good Try.prog flow_Loops_G := by
  intro f c hc
  unfold flow_Loops_G at hc
  split at hc
  · cases hc; exact good_ssa_Flow
  · cases hc; exact good_ssa_Doms
  · cases hc; exact good_ssa_Post
  · cases hc; exact good_ssa_NewTree
  · cases hc; exact good_slices_ContainsFunc_int
  · cases hc; exact good_flow_body
  · cases hc; exact good_slices_BinarySearch_int
  · cases hc; exact good_flow_deep
  · cases hc
noncomputable def F_flow_Loops : List RV → Option Res := fun rs => pureR (fnA Try.prog flow_Loops_G flow_Loops_A flow_Loops_R big Try.f18 (rs.map .rv) [])
theorem good_flow_Loops : GoodC Try.prog 18 (.pure F_flow_Loops) := goodP mixed flow_Loops_good (by kernel_rfl : Try.prog.funcs[18]? = some Try.f18) rfl rfl (fun rs r h => ⟨big, h⟩)
end Go.Proofs.Ytknphnmhjmejaaa
