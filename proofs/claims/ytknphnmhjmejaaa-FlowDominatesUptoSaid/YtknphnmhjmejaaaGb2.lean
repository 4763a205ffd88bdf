/- The places and the unfolding equations of these functions (printed by gen.py of this repo): no conditions. -/
import Derived.Test.YtknphnmhjmejaaaGb1
namespace Go.Proofs.Ytknphnmhjmejaaa
set_option linter.unusedVariables false
set_option maxRecDepth 100000

/-! (*gantry/ssa.checker).shape -/
abbrev id_ssa_checker_shape : FuncId := 57
noncomputable def ssa_checker_shape_G : FuncId → Option Callee := fun f => match f with
  | 72 => some (.pure F_ssa_must)
  | 73 => some (.gen G_ssa_all)
  | _ => none
def ssa_checker_shape_A : Ann := [(3, [0]), (28, [0, 25, 26, 27]), (231, [0, 25, 26, 27]), (1843, [0, 3, 25, 26, 27]), (3687, [0, 3, 25, 26, 27])]
def ssa_checker_shape_R : List Nat := []
noncomputable def ssa_checker_shape_c (k pos : Nat) : St → Cont (ARes × Hp) → Option (ARes × Hp) := acode Try.prog ssa_checker_shape_G ssa_checker_shape_A ssa_checker_shape_R k (cdAt (pathOf pos) (bodyOf Try.f57)) pos
noncomputable def ssa_checker_shape_K0 (k : Nat) : Cont (ARes × Hp) := blkK 0 (finA Try.prog Try.f57)
noncomputable def ssa_checker_shape_K1 (k : Nat) (N28 M28 : Nat) : Cont (ARes × Hp) := itK (aloop (ssa_checker_shape_c k 28) (clrA ssa_checker_shape_A 28) (trimOf ssa_checker_shape_R 28) M28 N28) (clrA ssa_checker_shape_A 28) (trimOf ssa_checker_shape_R 28) M28 (ssa_checker_shape_K0 k)
noncomputable def ssa_checker_shape_K2 (k : Nat) (N28 M28 : Nat) : Cont (ARes × Hp) := seqK (ssa_checker_shape_c k 231) true (clrA ssa_checker_shape_A 231) (ssa_checker_shape_K1 k N28 M28)
noncomputable def ssa_checker_shape_K3 (k : Nat) (N28 M28 : Nat) : Cont (ARes × Hp) := blkK 1 (ssa_checker_shape_K2 k N28 M28)
def ssa_checker_shape_T3 (x0 : AV) : List AV := x0 :: an 67 ([])
noncomputable def ssa_checker_shape_p3 (k : Nat) (x0 : AV) (h : Hp) : Option (ARes × Hp) := pnt (ssa_checker_shape_c k 3) ⟨ssa_checker_shape_T3 x0, h⟩ (finA Try.prog Try.f57)
def ssa_checker_shape_T28 (x0 : AV) (x25 : AV) (x26 : Int) (x27 : Int) : List AV := x0 :: an 24 (x25 :: (.rv (.int .i64 x26)) :: (.rv (.int .i64 x27)) :: an 40 ([]))
noncomputable def ssa_checker_shape_l28 (k : Nat) (N28 M28 : Nat) (x0 : AV) (x25 : AV) (x26 : Int) (x27 : Int) (h : Hp) : Option (ARes × Hp) := aloop (ssa_checker_shape_c k 28) (clrA ssa_checker_shape_A 28) (trimOf ssa_checker_shape_R 28) M28 N28 ⟨ssa_checker_shape_T28 x0 x25 x26 x27, h⟩ (ssa_checker_shape_K0 k)
def ssa_checker_shape_T1843 (x0 : AV) (x3 : AV) (x25 : AV) (x26 : Int) (x27 : Int) : List AV := x0 :: an 2 (x3 :: an 21 (x25 :: (.rv (.int .i64 x26)) :: (.rv (.int .i64 x27)) :: an 40 ([])))
noncomputable def ssa_checker_shape_p1843 (k : Nat) (N28 M28 : Nat) (x0 : AV) (x3 : AV) (x25 : AV) (x26 : Int) (x27 : Int) (h : Hp) : Option (ARes × Hp) := pnt (ssa_checker_shape_c k 1843) ⟨ssa_checker_shape_T1843 x0 x3 x25 x26 x27, h⟩ (ssa_checker_shape_K3 k N28 M28)
def ssa_checker_shape_T3687 (x0 : AV) (x3 : AV) (x25 : AV) (x26 : Int) (x27 : Int) : List AV := x0 :: an 2 (x3 :: an 21 (x25 :: (.rv (.int .i64 x26)) :: (.rv (.int .i64 x27)) :: an 40 ([])))
noncomputable def ssa_checker_shape_p3687 (k : Nat) (N28 M28 : Nat) (x0 : AV) (x3 : AV) (x25 : AV) (x26 : Int) (x27 : Int) (h : Hp) : Option (ARes × Hp) := pnt (ssa_checker_shape_c k 3687) ⟨ssa_checker_shape_T3687 x0 x3 x25 x26 x27, h⟩ (ssa_checker_shape_K3 k N28 M28)
def ssa_checker_shape_T231 (x0 : AV) (x25 : AV) (x26 : Int) (x27 : Int) : List AV := x0 :: an 24 (x25 :: (.rv (.int .i64 x26)) :: (.rv (.int .i64 x27)) :: an 40 ([]))
noncomputable def ssa_checker_shape_p231 (k : Nat) (N28 M28 : Nat) (x0 : AV) (x25 : AV) (x26 : Int) (x27 : Int) (h : Hp) : Option (ARes × Hp) := pnt (ssa_checker_shape_c k 231) ⟨ssa_checker_shape_T231 x0 x25 x26 x27, h⟩ (ssa_checker_shape_K1 k N28 M28)
theorem ssa_checker_shape_p3_eq (k : Nat) (x0 : AV) (h : Hp) : ssa_checker_shape_p3 k x0 h = nck x0 fun v15 => pad v15 2 fun p16 => pad p16 3 fun p17 => ldv h p17 fun v18 => lna v18 fun n19 => ssa_checker_shape_l28 k k h.length x0 v18 (n19) (0) (h) := nrfl (by kernel_rfl)
theorem ssa_checker_shape_l28_eq (k : Nat) (N28 M28 : Nat) (x0 : AV) (x25 : AV) (x26 : Int) (x27 : Int) (h : Hp) : ssa_checker_shape_l28 k (N28 + 1) M28 x0 x25 x26 x27 h = bsp ((decide (x27 < x26))) (ixa 6 x25 x27 fun p20 => ldg 6 h p20 fun v21 => nwc 1 (some [(.rv (.int .i64 0)), (.rv (.int .i64 0)), (.rv .nils), (.rv .nils), (.rv .nils), (.rv .nils)]) h fun p22 h23 => stv 6 h23 p22 v21 fun h24 => pad p22 0 fun p25 => ldi .i64 h24 p25 fun n26 => bsp ((decide (n26 ≥ 0))) (pad p22 0 fun p27 => ldi .i64 h24 p27 fun n28 => callP F_ssa_must h24 [(.rv (.bool (decide (n28 ≤ 4)))), (.rv (.int .i64 130))] (fun r29 => ssa_checker_shape_p1843 k N28 M28 x0 p22 x25 (x26) (x27) (h24)) (fun q30 => some (.pan q30, h24))) (callP F_ssa_must h24 [(.rv (.bool false)), (.rv (.int .i64 130))] (fun r31 => ssa_checker_shape_p1843 k N28 M28 x0 p22 x25 (x26) (x27) (h24)) (fun q32 => some (.pan q32, h24)))) (some (.ret undefA, h)) := nrfl (by kernel_rfl)
theorem ssa_checker_shape_p1843_eq (k : Nat) (N28 M28 : Nat) (x0 : AV) (x3 : AV) (x25 : AV) (x26 : Int) (x27 : Int) (h : Hp) : ssa_checker_shape_p1843 k N28 M28 x0 x3 x25 x26 x27 h = pad x3 0 fun p33 => ldi .i64 h p33 fun n34 => bsp ((n34 != 0)) (callP F_ssa_must h [(.rv (.bool true)), (.rv (.int .i64 130))] (fun r35 => ssa_checker_shape_p3687 k N28 M28 x0 x3 x25 (x26) (x27) (h)) (fun q36 => some (.pan q36, h))) (pad x3 3 fun p37 => ldv h p37 fun v38 => lna v38 fun n39 => pad x3 4 fun p40 => ldv h p40 fun v41 => lna v41 fun n42 => callP F_ssa_must h [(.rv (.bool ((wri .i64 (n39 + n42)) == 0))), (.rv (.int .i64 130))] (fun r43 => ssa_checker_shape_p3687 k N28 M28 x0 x3 x25 (x26) (x27) (h)) (fun q44 => some (.pan q44, h))) := nrfl (by kernel_rfl)
theorem ssa_checker_shape_p3687_eq (k : Nat) (N28 M28 : Nat) (x0 : AV) (x3 : AV) (x25 : AV) (x26 : Int) (x27 : Int) (h : Hp) : ssa_checker_shape_p3687 k N28 M28 x0 x3 x25 x26 x27 h = pad x3 3 fun p45 => ldv h p45 fun v46 => callG G_ssa_all h [v46, (.func id_ssa_checker_isBlock [x0] [])] (fun r47 h49 => asBool r47 fun b51 => bsp (b51) (pad x3 4 fun p52 => ldv h49 p52 fun v53 => callG G_ssa_all h49 [v53, (.func id_ssa_checker_isBlock [x0] [])] (fun r54 h56 => asBool r54 fun b58 => callP F_ssa_must h56 [(.rv (.bool b58)), (.rv (.int .i64 130))] (fun r59 => ssa_checker_shape_p231 k N28 M28 x0 x25 (x26) (x27) (h56)) (fun q60 => some (.pan q60, h56))) (fun q55 h57 => some (.pan q55, h57))) (callP F_ssa_must h49 [(.rv (.bool false)), (.rv (.int .i64 130))] (fun r61 => ssa_checker_shape_p231 k N28 M28 x0 x25 (x26) (x27) (h49)) (fun q62 => some (.pan q62, h49)))) (fun q48 h50 => some (.pan q48, h50)) := nrfl (by kernel_rfl)
theorem ssa_checker_shape_p231_eq (k : Nat) (N28 M28 : Nat) (x0 : AV) (x25 : AV) (x26 : Int) (x27 : Int) (h : Hp) : ssa_checker_shape_p231 k N28 M28 x0 x25 x26 x27 h = ssa_checker_shape_l28 k N28 M28 x0 x25 (x26) ((wri .i64 (x27 + 1))) (h) := nrfl (by kernel_rfl)
theorem ssa_checker_shape_eq (k : Nat) (x0 : AV) (h : Hp) : fnA Try.prog ssa_checker_shape_G ssa_checker_shape_A ssa_checker_shape_R k Try.f57 [x0] h = nck x0 fun v1 => pad v1 2 fun p2 => pad p2 3 fun p3 => ldv h p3 fun v4 => lna v4 fun n5 => bsp ((decide (n5 ≥ 1))) (nck x0 fun v6 => pad v6 2 fun p7 => pad p7 3 fun p8 => ldv h p8 fun v9 => lna v9 fun n10 => callP F_ssa_must h [(.rv (.bool (decide (n10 ≤ 4096)))), (.rv (.int .i64 130))] (fun r11 => ssa_checker_shape_p3 k x0 (h)) (fun q12 => some (.pan q12, h))) (callP F_ssa_must h [(.rv (.bool false)), (.rv (.int .i64 130))] (fun r13 => ssa_checker_shape_p3 k x0 (h)) (fun q14 => some (.pan q14, h))) := nrfl (by kernel_rfl)
theorem ssa_checker_shape_good : Good Try.prog ssa_checker_shape_G := by
  intro f c hc
  unfold ssa_checker_shape_G at hc
  split at hc
  · cases hc; exact good_ssa_must
  · cases hc; exact good_ssa_all
  · cases hc
noncomputable def G_ssa_checker_shape : List AV → Hp → Option (ARes × Hp) := fun xs h => fnA Try.prog ssa_checker_shape_G ssa_checker_shape_A ssa_checker_shape_R big Try.f57 xs h
theorem good_ssa_checker_shape : GoodC Try.prog 57 (.gen G_ssa_checker_shape) := goodG mixed ssa_checker_shape_good (by kernel_rfl : Try.prog.funcs[57]? = some Try.f57) rfl rfl (fun xs h x e => ⟨big, e⟩)

/-! gantry/ssa.reached -/
abbrev id_ssa_reached : FuncId := 64
noncomputable def ssa_reached_G : FuncId → Option Callee := fun f => match f with
  | _ => none
def ssa_reached_A : Ann := [(63, [2]), (248, [1, 2, 3, 4])]
def ssa_reached_R : List Nat := []
noncomputable def ssa_reached_c (k pos : Nat) : St → Cont (ARes × Hp) → Option (ARes × Hp) := acode Try.prog ssa_reached_G ssa_reached_A ssa_reached_R k (cdAt (pathOf pos) (bodyOf Try.f64)) pos
noncomputable def ssa_reached_K0 (k : Nat) : Cont (ARes × Hp) := seqK (ssa_reached_c k 63) true (clrA ssa_reached_A 63) (finA Try.prog Try.f64)
noncomputable def ssa_reached_K1 (k : Nat) : Cont (ARes × Hp) := blkK 0 (ssa_reached_K0 k)
def ssa_reached_T248 (x1 : AV) (x2 : AV) (x3 : AV) (x4 : AV) : List AV := an 1 (x1 :: x2 :: x3 :: x4 :: an 75 ([]))
noncomputable def ssa_reached_l248 (k : Nat) (N248 M248 : Nat) (x1 : AV) (x2 : AV) (x3 : AV) (x4 : AV) (h : Hp) : Option (ARes × Hp) := aloop (ssa_reached_c k 248) (clrA ssa_reached_A 248) (trimOf ssa_reached_R 248) M248 N248 ⟨ssa_reached_T248 x1 x2 x3 x4, h⟩ (ssa_reached_K1 k)
def ssa_reached_T63 (x2 : AV) : List AV := an 2 (x2 :: an 77 ([]))
noncomputable def ssa_reached_p63 (k : Nat) (x2 : AV) (h : Hp) : Option (ARes × Hp) := pnt (ssa_reached_c k 63) ⟨ssa_reached_T63 x2, h⟩ (finA Try.prog Try.f64)
theorem ssa_reached_l248_eq (k : Nat) (N248 M248 : Nat) (x1 : AV) (x2 : AV) (x3 : AV) (x4 : AV) (h : Hp) : ssa_reached_l248 k (N248 + 1) M248 x1 x2 x3 x4 h = lna x4 fun n13 => bsp ((decide (n13 > 0))) (lna x4 fun n14 => ixa 2 x4 (wri .i64 (n14 - 1)) fun p15 => pad x1 3 fun p16 => ldv h p16 fun v17 => nck p15 fun v18 => pad v18 0 fun p19 => ldi .i64 h p19 fun n20 => ixa 6 v17 n20 fun p21 => pad p21 4 fun p22 => ldv h p22 fun v23 => nck p15 fun v24 => pad v24 1 fun p25 => ldi .i64 h p25 fun n26 => lna v23 fun n27 => bsp ((n26 == n27)) (nck p15 fun v28 => pad v28 0 fun p29 => ldi .i64 h p29 fun n30 => bsl 1 1 [(.rv (.int .i64 0))] [(some (0, 1), (.rv (.int .i64 n30)))] h fun v31 h32 => apn 1 8 h32 x2 v31 fun v33 h34 => lna x4 fun n35 => slc 2 h34 x4 none (some (wri .i64 (n35 - 1))) fun v36 => ssa_reached_l248 k N248 M248 x1 v33 x3 v36 (h34)) (nck p15 fun v37 => pad v37 1 fun p38 => ldi .i64 h p38 fun n39 => ixa 1 v23 n39 fun p40 => ldi .i64 h p40 fun n41 => nck p15 fun v42 => pad v42 1 fun p43 => ldi .i64 h p43 fun n44 => nck p15 fun v45 => pad v45 1 fun p46 => stv 1 h p46 (.rv (.int .i64 (wri .i64 (n44 + 1)))) fun h47 => ixa 1 x3 n41 fun p48 => ldb h47 p48 fun b49 => bsp ((!b49)) (ixa 1 x3 n41 fun p50 => stv 1 h47 p50 (.rv (.bool true)) fun h51 => bld [(.rv (.int .i64 0)), (.rv (.int .i64 0))] [(some (0, 1), (.rv (.int .i64 n41))), (some (1, 1), (.rv (.int .i64 0)))] fun v52 => bsl 2 1 [(.rv (.int .i64 0)), (.rv (.int .i64 0))] [(some (0, 2), v52)] h51 fun v53 h54 => apn 2 16 h54 x4 v53 fun v55 h56 => ssa_reached_l248 k N248 M248 x1 x2 x3 v55 (h56)) (ssa_reached_l248 k N248 M248 x1 x2 x3 x4 (h47)))) (ssa_reached_p63 k x2 (h)) := nrfl (by kernel_rfl)
theorem ssa_reached_p63_eq (k : Nat) (x2 : AV) (h : Hp) : ssa_reached_p63 k x2 h = some (.ret x2, h) := nrfl (by kernel_rfl)
theorem ssa_reached_eq (k : Nat) (x0 : AV) (h : Hp) : fnA Try.prog ssa_reached_G ssa_reached_A ssa_reached_R k Try.f64 [x0] h = nwc 1 (vcells x0) h fun p1 h2 => pad p1 3 fun p3 => ldv h2 p3 fun v4 => lna v4 fun n5 => mks 1 1 [(.rv (.bool false))] h2 n5 fun v6 h7 => bld [(.rv (.int .i64 0)), (.rv (.int .i64 0))] [(some (0, 1), (.rv (.int .i64 0))), (some (1, 1), (.rv (.int .i64 0)))] fun v8 => bsl 2 1 [(.rv (.int .i64 0)), (.rv (.int .i64 0))] [(some (0, 2), v8)] h7 fun v9 h10 => ixa 1 v6 0 fun p11 => stv 1 h10 p11 (.rv (.bool true)) fun h12 => ssa_reached_l248 k k h12.length p1 (.rv .nils) v6 v9 (h12) := nrfl (by kernel_rfl)
theorem ssa_reached_good : Good Try.prog ssa_reached_G := fun f c hc => by cases hc
noncomputable def F_ssa_reached : List RV → Option Res := fun rs => pureR (fnA Try.prog ssa_reached_G ssa_reached_A ssa_reached_R big Try.f64 (rs.map .rv) [])
theorem good_ssa_reached : GoodC Try.prog 64 (.pure F_ssa_reached) := goodP mixed ssa_reached_good (by kernel_rfl : Try.prog.funcs[64]? = some Try.f64) rfl rfl (fun rs r h => ⟨big, h⟩)

/-! slices.Clone[[]int,int] -/
abbrev id_slices_Clone_int : FuncId := 66
noncomputable def slices_Clone_int_G : FuncId → Option Callee := fun f => match f with
  | _ => none
def slices_Clone_int_A : Ann := []
def slices_Clone_int_R : List Nat := []
noncomputable def slices_Clone_int_c (k pos : Nat) : St → Cont (ARes × Hp) → Option (ARes × Hp) := acode Try.prog slices_Clone_int_G slices_Clone_int_A slices_Clone_int_R k (cdAt (pathOf pos) (bodyOf Try.f66)) pos
theorem slices_Clone_int_eq (k : Nat) (x0 : AV) (h : Hp) : fnA Try.prog slices_Clone_int_G slices_Clone_int_A slices_Clone_int_R k Try.f66 [x0] h = nilEq false 2 x0 fun b1 => bsp (b1) (some (.ret (.rv .nils), h)) (bsl 1 0 [(.rv (.int .i64 0))] [] h fun v2 h3 => apn 1 8 h3 v2 x0 fun v4 h5 => some (.ret v4, h5)) := nrfl (by kernel_rfl)
theorem slices_Clone_int_good : Good Try.prog slices_Clone_int_G := fun f c hc => by cases hc
noncomputable def G_slices_Clone_int : List AV → Hp → Option (ARes × Hp) := fun xs h => fnA Try.prog slices_Clone_int_G slices_Clone_int_A slices_Clone_int_R big Try.f66 xs h
theorem good_slices_Clone_int : GoodC Try.prog 66 (.gen G_slices_Clone_int) := goodG mixed slices_Clone_int_good (by kernel_rfl : Try.prog.funcs[66]? = some Try.f66) rfl rfl (fun xs h x e => ⟨big, e⟩)

/-! slices.Equal[[]int,int] -/
abbrev id_slices_Equal_int : FuncId := 75
noncomputable def slices_Equal_int_G : FuncId → Option Callee := fun f => match f with
  | _ => none
def slices_Equal_int_A : Ann := [(15, []), (116, [0, 1, 12, 13])]
def slices_Equal_int_R : List Nat := []
noncomputable def slices_Equal_int_c (k pos : Nat) : St → Cont (ARes × Hp) → Option (ARes × Hp) := acode Try.prog slices_Equal_int_G slices_Equal_int_A slices_Equal_int_R k (cdAt (pathOf pos) (bodyOf Try.f75)) pos
noncomputable def slices_Equal_int_K0 (k : Nat) : Cont (ARes × Hp) := seqK (slices_Equal_int_c k 15) true (clrA slices_Equal_int_A 15) (finA Try.prog Try.f75)
noncomputable def slices_Equal_int_K1 (k : Nat) : Cont (ARes × Hp) := blkK 0 (slices_Equal_int_K0 k)
def slices_Equal_int_T116 (x0 : AV) (x1 : AV) (x12 : Int) (x13 : Int) : List AV := x0 :: x1 :: an 10 ((.rv (.int .i64 x12)) :: (.rv (.int .i64 x13)) :: an 12 ([]))
noncomputable def slices_Equal_int_l116 (k : Nat) (N116 M116 : Nat) (x0 : AV) (x1 : AV) (x12 : Int) (x13 : Int) (h : Hp) : Option (ARes × Hp) := aloop (slices_Equal_int_c k 116) (clrA slices_Equal_int_A 116) (trimOf slices_Equal_int_R 116) M116 N116 ⟨slices_Equal_int_T116 x0 x1 x12 x13, h⟩ (slices_Equal_int_K1 k)
def slices_Equal_int_T15  : List AV := an 26 ([])
noncomputable def slices_Equal_int_p15 (k : Nat)  (h : Hp) : Option (ARes × Hp) := pnt (slices_Equal_int_c k 15) ⟨slices_Equal_int_T15 , h⟩ (finA Try.prog Try.f75)
theorem slices_Equal_int_l116_eq (k : Nat) (N116 M116 : Nat) (x0 : AV) (x1 : AV) (x12 : Int) (x13 : Int) (h : Hp) : slices_Equal_int_l116 k (N116 + 1) M116 x0 x1 x12 x13 h = bsp ((decide (x13 < x12))) (ixa 1 x0 x13 fun p4 => ldi .i64 h p4 fun n5 => ixa 1 x1 x13 fun p6 => ldi .i64 h p6 fun n7 => bsp ((n5 != n7)) (some (.ret (.rv (.bool false)), h)) (slices_Equal_int_l116 k N116 M116 x0 x1 (x12) ((wri .i64 (x13 + 1))) (h))) (slices_Equal_int_p15 k  (h)) := nrfl (by kernel_rfl)
theorem slices_Equal_int_p15_eq (k : Nat)  (h : Hp) : slices_Equal_int_p15 k  h = some (.ret (.rv (.bool true)), h) := nrfl (by kernel_rfl)
theorem slices_Equal_int_eq (k : Nat) (x0 : AV) (x1 : AV) (h : Hp) : fnA Try.prog slices_Equal_int_G slices_Equal_int_A slices_Equal_int_R k Try.f75 [x0, x1] h = lna x0 fun n1 => lna x1 fun n2 => bsp ((n1 != n2)) (some (.ret (.rv (.bool false)), h)) (lna x0 fun n3 => slices_Equal_int_l116 k k h.length x0 x1 (n3) (0) (h)) := nrfl (by kernel_rfl)
theorem slices_Equal_int_good : Good Try.prog slices_Equal_int_G := fun f c hc => by cases hc
noncomputable def F_slices_Equal_int : List RV → Option Res := fun rs => pureR (fnA Try.prog slices_Equal_int_G slices_Equal_int_A slices_Equal_int_R big Try.f75 (rs.map .rv) [])
theorem good_slices_Equal_int : GoodC Try.prog 75 (.pure F_slices_Equal_int) := goodP mixed slices_Equal_int_good (by kernel_rfl : Try.prog.funcs[75]? = some Try.f75) rfl rfl (fun rs r h => ⟨big, h⟩)
end Go.Proofs.Ytknphnmhjmejaaa
