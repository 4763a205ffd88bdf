/- Joined texts: F2. No conditions but those of each. -/
import Derived.Test.YtknphnmhjmejaaaJ16
/- The places and the unfolding equations of these functions (printed by gen.py of this repo): no conditions. -/
namespace Go.Proofs.Ytknphnmhjmejaaa
set_option linter.unusedVariables false
set_option maxRecDepth 100000

/-! gantry/gantryref0.EqValue -/
abbrev id_r0_EqValue : FuncId := 70
noncomputable def r0_EqValue_G : FuncId → Option Callee := fun f => match f with
  | 20 => some (.pure F_r0_EqNumbers)
  | _ => none
def r0_EqValue_A : Ann := [(7, [4])]
def r0_EqValue_R : List Nat := []
noncomputable def r0_EqValue_c (k pos : Nat) : St → Cont (ARes × Hp) → Option (ARes × Hp) := acode Try.prog r0_EqValue_G r0_EqValue_A r0_EqValue_R k (cdAt (pathOf pos) (bodyOf Try.f70)) pos
def r0_EqValue_T7 (x4 : Bool) : List AV := an 4 ((.rv (.bool x4)) :: an 33 ([]))
noncomputable def r0_EqValue_p7 (k : Nat) (x4 : Bool) (h : Hp) : Option (ARes × Hp) := pnt (r0_EqValue_c k 7) ⟨r0_EqValue_T7 x4, h⟩ (finA Try.prog Try.f70)
theorem r0_EqValue_p7_eq (k : Nat) (x4 : Bool) (h : Hp) : r0_EqValue_p7 k x4 h = some (.ret (.rv (.bool x4)), h) := nrfl (by kernel_rfl)
theorem r0_EqValue_eq (k : Nat) (x0 : AV) (x1 : AV) (h : Hp) : fnA Try.prog r0_EqValue_G r0_EqValue_A r0_EqValue_R k Try.f70 [x0, x1] h = nwc 1 (vcells x0) h fun p1 h2 => nwc 1 (vcells x1) h2 fun p3 h4 => pad p1 0 fun p5 => ldi .i64 h4 p5 fun n6 => pad p3 0 fun p7 => ldi .i64 h4 p7 fun n8 => bsp ((n6 == n8)) (pad p1 1 fun p9 => ldi .i64 h4 p9 fun n10 => pad p3 1 fun p11 => ldi .i64 h4 p11 fun n12 => bsp ((n10 == n12)) (pad p1 2 fun p13 => ldv h4 p13 fun v14 => pad p3 2 fun p15 => ldv h4 p15 fun v16 => callP F_r0_EqNumbers h4 [v14, v16] (fun r17 => asBool r17 fun b19 => bsp (b19) (pad p1 3 fun p20 => ldi .i64 h4 p20 fun n21 => pad p3 3 fun p22 => ldi .i64 h4 p22 fun n23 => bsp ((n21 == n23)) (pad p1 4 fun p24 => ldi .i64 h4 p24 fun n25 => pad p3 4 fun p26 => ldi .i64 h4 p26 fun n27 => r0_EqValue_p7 k ((n25 == n27)) (h4)) (r0_EqValue_p7 k (false) (h4))) (r0_EqValue_p7 k (false) (h4))) (fun q18 => some (.pan q18, h4))) (r0_EqValue_p7 k (false) (h4))) (r0_EqValue_p7 k (false) (h4)) := nrfl (by kernel_rfl)
theorem r0_EqValue_good : Good Try.prog r0_EqValue_G := by
  intro f c hc
  unfold r0_EqValue_G at hc
  split at hc
  · cases hc; exact good_r0_EqNumbers
  · cases hc
noncomputable def F_r0_EqValue : List RV → Option Res := fun rs => pureR (fnA Try.prog r0_EqValue_G r0_EqValue_A r0_EqValue_R big Try.f70 (rs.map .rv) [])
theorem good_r0_EqValue : GoodC Try.prog 70 (.pure F_r0_EqValue) := goodP mixed r0_EqValue_good (by kernel_rfl : Try.prog.funcs[70]? = some Try.f70) rfl rfl (fun rs r h => ⟨big, h⟩)

/-! gantry/gantryref0.EqValues -/
abbrev id_r0_EqValues : FuncId := 51
noncomputable def r0_EqValues_G : FuncId → Option Callee := fun f => match f with
  | 70 => some (.pure F_r0_EqValue)
  | _ => none
def r0_EqValues_A : Ann := [(15, []), (116, [0, 1, 5])]
def r0_EqValues_R : List Nat := []
noncomputable def r0_EqValues_c (k pos : Nat) : St → Cont (ARes × Hp) → Option (ARes × Hp) := acode Try.prog r0_EqValues_G r0_EqValues_A r0_EqValues_R k (cdAt (pathOf pos) (bodyOf Try.f51)) pos
def r0_EqValues_T116 (x0 : AV) (x1 : AV) (x5 : Int) : List AV := x0 :: x1 :: an 3 ((.rv (.int .i64 x5)) :: an 21 ([]))
def r0_EqValues_T15  : List AV := an 27 ([])
noncomputable def r0_EqValues_K0 (k : Nat) : Cont (ARes × Hp) := seqK (r0_EqValues_c k 15) true (clrA r0_EqValues_A 15) (finA Try.prog Try.f51)
noncomputable def r0_EqValues_K1 (k : Nat) : Cont (ARes × Hp) := blkK 0 (r0_EqValues_K0 k)
noncomputable def r0_EqValues_l116 (k : Nat) (N116 M116 : Nat) (x0 : AV) (x1 : AV) (x5 : Int) (h : Hp) : Option (ARes × Hp) := aloop (r0_EqValues_c k 116) (clrA r0_EqValues_A 116) (trimOf r0_EqValues_R 116) M116 N116 ⟨r0_EqValues_T116 x0 x1 x5, h⟩ (r0_EqValues_K1 k)
noncomputable def r0_EqValues_p15 (k : Nat)  (h : Hp) : Option (ARes × Hp) := pnt (r0_EqValues_c k 15) ⟨r0_EqValues_T15 , h⟩ (finA Try.prog Try.f51)
theorem r0_EqValues_l116_eq (k : Nat) (N116 M116 : Nat) (x0 : AV) (x1 : AV) (x5 : Int) (h : Hp) : r0_EqValues_l116 k (N116 + 1) M116 x0 x1 x5 h = lna x0 fun n3 => bsp ((decide (x5 < n3))) (ixa 5 x0 x5 fun p4 => ldg 5 h p4 fun v5 => ixa 5 x1 x5 fun p6 => ldg 5 h p6 fun v7 => callP F_r0_EqValue h [v5, v7] (fun r8 => asBool r8 fun b10 => bsp ((!b10)) (some (.ret (.rv (.bool false)), h)) (r0_EqValues_l116 k N116 M116 x0 x1 ((wri .i64 (x5 + 1))) (h))) (fun q9 => none)) (r0_EqValues_p15 k  (h)) := nrfl (by kernel_rfl)
theorem r0_EqValues_p15_eq (k : Nat)  (h : Hp) : r0_EqValues_p15 k  h = some (.ret (.rv (.bool true)), h) := nrfl (by kernel_rfl)
theorem r0_EqValues_eq (k : Nat) (x0 : AV) (x1 : AV) (h : Hp) : fnA Try.prog r0_EqValues_G r0_EqValues_A r0_EqValues_R k Try.f51 [x0, x1] h = lna x0 fun n1 => lna x1 fun n2 => bsp ((n1 != n2)) (some (.ret (.rv (.bool false)), h)) (r0_EqValues_l116 k k h.length x0 x1 (0) (h)) := nrfl (by kernel_rfl)
theorem r0_EqValues_good : Good Try.prog r0_EqValues_G := by
  intro f c hc
  unfold r0_EqValues_G at hc
  split at hc
  · cases hc; exact good_r0_EqValue
  · cases hc
noncomputable def F_r0_EqValues : List RV → Option Res := fun rs => pureR (fnA Try.prog r0_EqValues_G r0_EqValues_A r0_EqValues_R big Try.f51 (rs.map .rv) [])
theorem good_r0_EqValues : GoodC Try.prog 51 (.pure F_r0_EqValues) := goodP mixed r0_EqValues_good (by kernel_rfl : Try.prog.funcs[51]? = some Try.f51) rfl rfl (fun rs r h => ⟨big, h⟩)

/-! gantry/gantryref0.EqBlock -/
abbrev id_r0_EqBlock : FuncId := 71
noncomputable def r0_EqBlock_G : FuncId → Option Callee := fun f => match f with
  | 20 => some (.pure F_r0_EqNumbers)
  | _ => none
def r0_EqBlock_A : Ann := [(7, [4])]
def r0_EqBlock_R : List Nat := []
noncomputable def r0_EqBlock_c (k pos : Nat) : St → Cont (ARes × Hp) → Option (ARes × Hp) := acode Try.prog r0_EqBlock_G r0_EqBlock_A r0_EqBlock_R k (cdAt (pathOf pos) (bodyOf Try.f71)) pos
def r0_EqBlock_T7 (x4 : Bool) : List AV := an 4 ((.rv (.bool x4)) :: an 40 ([]))
noncomputable def r0_EqBlock_p7 (k : Nat) (x4 : Bool) (h : Hp) : Option (ARes × Hp) := pnt (r0_EqBlock_c k 7) ⟨r0_EqBlock_T7 x4, h⟩ (finA Try.prog Try.f71)
theorem r0_EqBlock_p7_eq (k : Nat) (x4 : Bool) (h : Hp) : r0_EqBlock_p7 k x4 h = some (.ret (.rv (.bool x4)), h) := nrfl (by kernel_rfl)
theorem r0_EqBlock_eq (k : Nat) (x0 : AV) (x1 : AV) (h : Hp) : fnA Try.prog r0_EqBlock_G r0_EqBlock_A r0_EqBlock_R k Try.f71 [x0, x1] h = nwc 1 (vcells x0) h fun p1 h2 => nwc 1 (vcells x1) h2 fun p3 h4 => pad p1 0 fun p5 => ldi .i64 h4 p5 fun n6 => pad p3 0 fun p7 => ldi .i64 h4 p7 fun n8 => bsp ((n6 == n8)) (pad p1 1 fun p9 => ldi .i64 h4 p9 fun n10 => pad p3 1 fun p11 => ldi .i64 h4 p11 fun n12 => bsp ((n10 == n12)) (pad p1 2 fun p13 => ldv h4 p13 fun v14 => pad p3 2 fun p15 => ldv h4 p15 fun v16 => callP F_r0_EqNumbers h4 [v14, v16] (fun r17 => asBool r17 fun b19 => bsp (b19) (pad p1 3 fun p20 => ldv h4 p20 fun v21 => pad p3 3 fun p22 => ldv h4 p22 fun v23 => callP F_r0_EqNumbers h4 [v21, v23] (fun r24 => asBool r24 fun b26 => bsp (b26) (pad p1 4 fun p27 => ldv h4 p27 fun v28 => pad p3 4 fun p29 => ldv h4 p29 fun v30 => callP F_r0_EqNumbers h4 [v28, v30] (fun r31 => asBool r31 fun b33 => bsp (b33) (pad p1 5 fun p34 => ldv h4 p34 fun v35 => pad p3 5 fun p36 => ldv h4 p36 fun v37 => callP F_r0_EqNumbers h4 [v35, v37] (fun r38 => asBool r38 fun b40 => r0_EqBlock_p7 k (b40) (h4)) (fun q39 => some (.pan q39, h4))) (r0_EqBlock_p7 k (false) (h4))) (fun q32 => some (.pan q32, h4))) (r0_EqBlock_p7 k (false) (h4))) (fun q25 => some (.pan q25, h4))) (r0_EqBlock_p7 k (false) (h4))) (fun q18 => some (.pan q18, h4))) (r0_EqBlock_p7 k (false) (h4))) (r0_EqBlock_p7 k (false) (h4)) := nrfl (by kernel_rfl)
theorem r0_EqBlock_good : Good Try.prog r0_EqBlock_G := by
  intro f c hc
  unfold r0_EqBlock_G at hc
  split at hc
  · cases hc; exact good_r0_EqNumbers
  · cases hc
noncomputable def F_r0_EqBlock : List RV → Option Res := fun rs => pureR (fnA Try.prog r0_EqBlock_G r0_EqBlock_A r0_EqBlock_R big Try.f71 (rs.map .rv) [])
theorem good_r0_EqBlock : GoodC Try.prog 71 (.pure F_r0_EqBlock) := goodP mixed r0_EqBlock_good (by kernel_rfl : Try.prog.funcs[71]? = some Try.f71) rfl rfl (fun rs r h => ⟨big, h⟩)

/-! gantry/gantryref0.EqBlocks -/
abbrev id_r0_EqBlocks : FuncId := 52
noncomputable def r0_EqBlocks_G : FuncId → Option Callee := fun f => match f with
  | 71 => some (.pure F_r0_EqBlock)
  | _ => none
def r0_EqBlocks_A : Ann := [(15, []), (116, [0, 1, 5])]
def r0_EqBlocks_R : List Nat := []
noncomputable def r0_EqBlocks_c (k pos : Nat) : St → Cont (ARes × Hp) → Option (ARes × Hp) := acode Try.prog r0_EqBlocks_G r0_EqBlocks_A r0_EqBlocks_R k (cdAt (pathOf pos) (bodyOf Try.f52)) pos
def r0_EqBlocks_T116 (x0 : AV) (x1 : AV) (x5 : Int) : List AV := x0 :: x1 :: an 3 ((.rv (.int .i64 x5)) :: an 21 ([]))
def r0_EqBlocks_T15  : List AV := an 27 ([])
noncomputable def r0_EqBlocks_K0 (k : Nat) : Cont (ARes × Hp) := seqK (r0_EqBlocks_c k 15) true (clrA r0_EqBlocks_A 15) (finA Try.prog Try.f52)
noncomputable def r0_EqBlocks_K1 (k : Nat) : Cont (ARes × Hp) := blkK 0 (r0_EqBlocks_K0 k)
noncomputable def r0_EqBlocks_l116 (k : Nat) (N116 M116 : Nat) (x0 : AV) (x1 : AV) (x5 : Int) (h : Hp) : Option (ARes × Hp) := aloop (r0_EqBlocks_c k 116) (clrA r0_EqBlocks_A 116) (trimOf r0_EqBlocks_R 116) M116 N116 ⟨r0_EqBlocks_T116 x0 x1 x5, h⟩ (r0_EqBlocks_K1 k)
noncomputable def r0_EqBlocks_p15 (k : Nat)  (h : Hp) : Option (ARes × Hp) := pnt (r0_EqBlocks_c k 15) ⟨r0_EqBlocks_T15 , h⟩ (finA Try.prog Try.f52)
theorem r0_EqBlocks_l116_eq (k : Nat) (N116 M116 : Nat) (x0 : AV) (x1 : AV) (x5 : Int) (h : Hp) : r0_EqBlocks_l116 k (N116 + 1) M116 x0 x1 x5 h = lna x0 fun n3 => bsp ((decide (x5 < n3))) (ixa 6 x0 x5 fun p4 => ldg 6 h p4 fun v5 => ixa 6 x1 x5 fun p6 => ldg 6 h p6 fun v7 => callP F_r0_EqBlock h [v5, v7] (fun r8 => asBool r8 fun b10 => bsp ((!b10)) (some (.ret (.rv (.bool false)), h)) (r0_EqBlocks_l116 k N116 M116 x0 x1 ((wri .i64 (x5 + 1))) (h))) (fun q9 => none)) (r0_EqBlocks_p15 k  (h)) := nrfl (by kernel_rfl)
theorem r0_EqBlocks_p15_eq (k : Nat)  (h : Hp) : r0_EqBlocks_p15 k  h = some (.ret (.rv (.bool true)), h) := nrfl (by kernel_rfl)
theorem r0_EqBlocks_eq (k : Nat) (x0 : AV) (x1 : AV) (h : Hp) : fnA Try.prog r0_EqBlocks_G r0_EqBlocks_A r0_EqBlocks_R k Try.f52 [x0, x1] h = lna x0 fun n1 => lna x1 fun n2 => bsp ((n1 != n2)) (some (.ret (.rv (.bool false)), h)) (r0_EqBlocks_l116 k k h.length x0 x1 (0) (h)) := nrfl (by kernel_rfl)
theorem r0_EqBlocks_good : Good Try.prog r0_EqBlocks_G := by
  intro f c hc
  unfold r0_EqBlocks_G at hc
  split at hc
  · cases hc; exact good_r0_EqBlock
  · cases hc
noncomputable def F_r0_EqBlocks : List RV → Option Res := fun rs => pureR (fnA Try.prog r0_EqBlocks_G r0_EqBlocks_A r0_EqBlocks_R big Try.f52 (rs.map .rv) [])
theorem good_r0_EqBlocks : GoodC Try.prog 52 (.pure F_r0_EqBlocks) := goodP mixed r0_EqBlocks_good (by kernel_rfl : Try.prog.funcs[52]? = some Try.f52) rfl rfl (fun rs r h => ⟨big, h⟩)

/-! gantry/gantryref0.EqCode -/
abbrev id_r0_EqCode : FuncId := 19
noncomputable def r0_EqCode_G : FuncId → Option Callee := fun f => match f with
  | 20 => some (.pure F_r0_EqNumbers)
  | 51 => some (.pure F_r0_EqValues)
  | 52 => some (.pure F_r0_EqBlocks)
  | _ => none
def r0_EqCode_A : Ann := [(7, [4])]
def r0_EqCode_R : List Nat := []
noncomputable def r0_EqCode_c (k pos : Nat) : St → Cont (ARes × Hp) → Option (ARes × Hp) := acode Try.prog r0_EqCode_G r0_EqCode_A r0_EqCode_R k (cdAt (pathOf pos) (bodyOf Try.f19)) pos
def r0_EqCode_T7 (x4 : Bool) : List AV := an 4 ((.rv (.bool x4)) :: an 26 ([]))
noncomputable def r0_EqCode_p7 (k : Nat) (x4 : Bool) (h : Hp) : Option (ARes × Hp) := pnt (r0_EqCode_c k 7) ⟨r0_EqCode_T7 x4, h⟩ (finA Try.prog Try.f19)
theorem r0_EqCode_p7_eq (k : Nat) (x4 : Bool) (h : Hp) : r0_EqCode_p7 k x4 h = some (.ret (.rv (.bool x4)), h) := nrfl (by kernel_rfl)
theorem r0_EqCode_eq (k : Nat) (x0 : AV) (x1 : AV) (h : Hp) : fnA Try.prog r0_EqCode_G r0_EqCode_A r0_EqCode_R k Try.f19 [x0, x1] h = nwc 1 (vcells x0) h fun p1 h2 => nwc 1 (vcells x1) h2 fun p3 h4 => pad p1 0 fun p5 => ldv h4 p5 fun v6 => pad p3 0 fun p7 => ldv h4 p7 fun v8 => callP F_r0_EqNumbers h4 [v6, v8] (fun r9 => asBool r9 fun b11 => bsp (b11) (pad p1 1 fun p12 => ldv h4 p12 fun v13 => pad p3 1 fun p14 => ldv h4 p14 fun v15 => callP F_r0_EqNumbers h4 [v13, v15] (fun r16 => asBool r16 fun b18 => bsp (b18) (pad p1 2 fun p19 => ldv h4 p19 fun v20 => pad p3 2 fun p21 => ldv h4 p21 fun v22 => callP F_r0_EqValues h4 [v20, v22] (fun r23 => asBool r23 fun b25 => bsp (b25) (pad p1 3 fun p26 => ldv h4 p26 fun v27 => pad p3 3 fun p28 => ldv h4 p28 fun v29 => callP F_r0_EqBlocks h4 [v27, v29] (fun r30 => asBool r30 fun b32 => r0_EqCode_p7 k (b32) (h4)) (fun q31 => some (.pan q31, h4))) (r0_EqCode_p7 k (false) (h4))) (fun q24 => some (.pan q24, h4))) (r0_EqCode_p7 k (false) (h4))) (fun q17 => some (.pan q17, h4))) (r0_EqCode_p7 k (false) (h4))) (fun q10 => some (.pan q10, h4)) := nrfl (by kernel_rfl)
theorem r0_EqCode_good : Good Try.prog r0_EqCode_G := by
  intro f c hc
  unfold r0_EqCode_G at hc
  split at hc
  · cases hc; exact good_r0_EqNumbers
  · cases hc; exact good_r0_EqValues
  · cases hc; exact good_r0_EqBlocks
  · cases hc
noncomputable def F_r0_EqCode : List RV → Option Res := fun rs => pureR (fnA Try.prog r0_EqCode_G r0_EqCode_A r0_EqCode_R big Try.f19 (rs.map .rv) [])
theorem good_r0_EqCode : GoodC Try.prog 19 (.pure F_r0_EqCode) := goodP mixed r0_EqCode_good (by kernel_rfl : Try.prog.funcs[19]? = some Try.f19) rfl rfl (fun rs r h => ⟨big, h⟩)

/-! gantry/gantryref0.EqLoop -/
abbrev id_r0_EqLoop : FuncId := 54
noncomputable def r0_EqLoop_G : FuncId → Option Callee := fun f => match f with
  | 20 => some (.pure F_r0_EqNumbers)
  | _ => none
def r0_EqLoop_A : Ann := [(7, [4])]
def r0_EqLoop_R : List Nat := []
noncomputable def r0_EqLoop_c (k pos : Nat) : St → Cont (ARes × Hp) → Option (ARes × Hp) := acode Try.prog r0_EqLoop_G r0_EqLoop_A r0_EqLoop_R k (cdAt (pathOf pos) (bodyOf Try.f54)) pos
def r0_EqLoop_T7 (x4 : Bool) : List AV := an 4 ((.rv (.bool x4)) :: an 26 ([]))
noncomputable def r0_EqLoop_p7 (k : Nat) (x4 : Bool) (h : Hp) : Option (ARes × Hp) := pnt (r0_EqLoop_c k 7) ⟨r0_EqLoop_T7 x4, h⟩ (finA Try.prog Try.f54)
theorem r0_EqLoop_p7_eq (k : Nat) (x4 : Bool) (h : Hp) : r0_EqLoop_p7 k x4 h = some (.ret (.rv (.bool x4)), h) := nrfl (by kernel_rfl)
theorem r0_EqLoop_eq (k : Nat) (x0 : AV) (x1 : AV) (h : Hp) : fnA Try.prog r0_EqLoop_G r0_EqLoop_A r0_EqLoop_R k Try.f54 [x0, x1] h = nwc 1 (vcells x0) h fun p1 h2 => nwc 1 (vcells x1) h2 fun p3 h4 => pad p1 0 fun p5 => ldi .i64 h4 p5 fun n6 => pad p3 0 fun p7 => ldi .i64 h4 p7 fun n8 => bsp ((n6 == n8)) (pad p1 1 fun p9 => ldi .i64 h4 p9 fun n10 => pad p3 1 fun p11 => ldi .i64 h4 p11 fun n12 => bsp ((n10 == n12)) (pad p1 2 fun p13 => ldi .i64 h4 p13 fun n14 => pad p3 2 fun p15 => ldi .i64 h4 p15 fun n16 => bsp ((n14 == n16)) (pad p1 3 fun p17 => ldv h4 p17 fun v18 => pad p3 3 fun p19 => ldv h4 p19 fun v20 => callP F_r0_EqNumbers h4 [v18, v20] (fun r21 => asBool r21 fun b23 => r0_EqLoop_p7 k (b23) (h4)) (fun q22 => some (.pan q22, h4))) (r0_EqLoop_p7 k (false) (h4))) (r0_EqLoop_p7 k (false) (h4))) (r0_EqLoop_p7 k (false) (h4)) := nrfl (by kernel_rfl)
theorem r0_EqLoop_good : Good Try.prog r0_EqLoop_G := by
  intro f c hc
  unfold r0_EqLoop_G at hc
  split at hc
  · cases hc; exact good_r0_EqNumbers
  · cases hc
noncomputable def F_r0_EqLoop : List RV → Option Res := fun rs => pureR (fnA Try.prog r0_EqLoop_G r0_EqLoop_A r0_EqLoop_R big Try.f54 (rs.map .rv) [])
theorem good_r0_EqLoop : GoodC Try.prog 54 (.pure F_r0_EqLoop) := goodP mixed r0_EqLoop_good (by kernel_rfl : Try.prog.funcs[54]? = some Try.f54) rfl rfl (fun rs r h => ⟨big, h⟩)

/-! gantry/gantryref0.EqLoops -/
abbrev id_r0_EqLoops : FuncId := 23
noncomputable def r0_EqLoops_G : FuncId → Option Callee := fun f => match f with
  | 54 => some (.pure F_r0_EqLoop)
  | _ => none
def r0_EqLoops_A : Ann := [(15, []), (116, [0, 1, 5])]
def r0_EqLoops_R : List Nat := []
noncomputable def r0_EqLoops_c (k pos : Nat) : St → Cont (ARes × Hp) → Option (ARes × Hp) := acode Try.prog r0_EqLoops_G r0_EqLoops_A r0_EqLoops_R k (cdAt (pathOf pos) (bodyOf Try.f23)) pos
def r0_EqLoops_T116 (x0 : AV) (x1 : AV) (x5 : Int) : List AV := x0 :: x1 :: an 3 ((.rv (.int .i64 x5)) :: an 21 ([]))
def r0_EqLoops_T15  : List AV := an 27 ([])
noncomputable def r0_EqLoops_K0 (k : Nat) : Cont (ARes × Hp) := seqK (r0_EqLoops_c k 15) true (clrA r0_EqLoops_A 15) (finA Try.prog Try.f23)
noncomputable def r0_EqLoops_K1 (k : Nat) : Cont (ARes × Hp) := blkK 0 (r0_EqLoops_K0 k)
noncomputable def r0_EqLoops_l116 (k : Nat) (N116 M116 : Nat) (x0 : AV) (x1 : AV) (x5 : Int) (h : Hp) : Option (ARes × Hp) := aloop (r0_EqLoops_c k 116) (clrA r0_EqLoops_A 116) (trimOf r0_EqLoops_R 116) M116 N116 ⟨r0_EqLoops_T116 x0 x1 x5, h⟩ (r0_EqLoops_K1 k)
noncomputable def r0_EqLoops_p15 (k : Nat)  (h : Hp) : Option (ARes × Hp) := pnt (r0_EqLoops_c k 15) ⟨r0_EqLoops_T15 , h⟩ (finA Try.prog Try.f23)
theorem r0_EqLoops_l116_eq (k : Nat) (N116 M116 : Nat) (x0 : AV) (x1 : AV) (x5 : Int) (h : Hp) : r0_EqLoops_l116 k (N116 + 1) M116 x0 x1 x5 h = lna x0 fun n3 => bsp ((decide (x5 < n3))) (ixa 4 x0 x5 fun p4 => ldg 4 h p4 fun v5 => ixa 4 x1 x5 fun p6 => ldg 4 h p6 fun v7 => callP F_r0_EqLoop h [v5, v7] (fun r8 => asBool r8 fun b10 => bsp ((!b10)) (some (.ret (.rv (.bool false)), h)) (r0_EqLoops_l116 k N116 M116 x0 x1 ((wri .i64 (x5 + 1))) (h))) (fun q9 => none)) (r0_EqLoops_p15 k  (h)) := nrfl (by kernel_rfl)
theorem r0_EqLoops_p15_eq (k : Nat)  (h : Hp) : r0_EqLoops_p15 k  h = some (.ret (.rv (.bool true)), h) := nrfl (by kernel_rfl)
theorem r0_EqLoops_eq (k : Nat) (x0 : AV) (x1 : AV) (h : Hp) : fnA Try.prog r0_EqLoops_G r0_EqLoops_A r0_EqLoops_R k Try.f23 [x0, x1] h = lna x0 fun n1 => lna x1 fun n2 => bsp ((n1 != n2)) (some (.ret (.rv (.bool false)), h)) (r0_EqLoops_l116 k k h.length x0 x1 (0) (h)) := nrfl (by kernel_rfl)
theorem r0_EqLoops_good : Good Try.prog r0_EqLoops_G := by
  intro f c hc
  unfold r0_EqLoops_G at hc
  split at hc
  · cases hc; exact good_r0_EqLoop
  · cases hc
noncomputable def F_r0_EqLoops : List RV → Option Res := fun rs => pureR (fnA Try.prog r0_EqLoops_G r0_EqLoops_A r0_EqLoops_R big Try.f23 (rs.map .rv) [])
theorem good_r0_EqLoops : GoodC Try.prog 23 (.pure F_r0_EqLoops) := goodP mixed r0_EqLoops_good (by kernel_rfl : Try.prog.funcs[23]? = some Try.f23) rfl rfl (fun rs r h => ⟨big, h⟩)

/-! gantry/gantryref13.post -/
abbrev id_r13_post : FuncId := 53
noncomputable def r13_post_G (S : List AV → Hp → Option (ARes × Hp)) : FuncId → Option Callee := fun f => match f with
  | 53 => some (.gen S)
  | _ => none
def r13_post_A : Ann := [(31, [1, 3]), (244, [1, 2, 3, 4, 9, 10]), (979, [1, 2, 3, 4, 9, 10])]
def r13_post_R : List Nat := []
noncomputable def r13_post_c (S : List AV → Hp → Option (ARes × Hp)) (k pos : Nat) : St → Cont (ARes × Hp) → Option (ARes × Hp) := acode Try.prog (r13_post_G S) r13_post_A r13_post_R k (cdAt (pathOf pos) (bodyOf Try.f53)) pos
def r13_post_T244 (x1 : Int) (x2 : AV) (x3 : AV) (x4 : AV) (x9 : AV) (x10 : Int) : List AV := an 1 ((.rv (.int .i64 x1)) :: x2 :: x3 :: x4 :: an 4 (x9 :: (.rv (.int .i64 x10)) :: an 35 ([])))
def r13_post_T979 (x1 : Int) (x2 : AV) (x3 : AV) (x4 : AV) (x9 : AV) (x10 : Int) : List AV := an 1 ((.rv (.int .i64 x1)) :: x2 :: x3 :: x4 :: an 4 (x9 :: (.rv (.int .i64 x10)) :: an 35 ([])))
def r13_post_T31 (x1 : Int) (x3 : AV) : List AV := an 1 ((.rv (.int .i64 x1)) :: an 1 (x3 :: an 42 ([])))
noncomputable def r13_post_K0 (S : List AV → Hp → Option (ARes × Hp)) (k : Nat) : Cont (ARes × Hp) := seqK (r13_post_c S k 31) true (clrA r13_post_A 31) (finA Try.prog Try.f53)
noncomputable def r13_post_K1 (S : List AV → Hp → Option (ARes × Hp)) (k : Nat) : Cont (ARes × Hp) := blkK 0 (r13_post_K0 S k)
noncomputable def r13_post_K2 (S : List AV → Hp → Option (ARes × Hp)) (k : Nat) (N244 M244 : Nat) : Cont (ARes × Hp) := itK (aloop (r13_post_c S k 244) (clrA r13_post_A 244) (trimOf r13_post_R 244) M244 N244) (clrA r13_post_A 244) (trimOf r13_post_R 244) M244 (r13_post_K1 S k)
noncomputable def r13_post_l244 (S : List AV → Hp → Option (ARes × Hp)) (k : Nat) (N244 M244 : Nat) (x1 : Int) (x2 : AV) (x3 : AV) (x4 : AV) (x9 : AV) (x10 : Int) (h : Hp) : Option (ARes × Hp) := aloop (r13_post_c S k 244) (clrA r13_post_A 244) (trimOf r13_post_R 244) M244 N244 ⟨r13_post_T244 x1 x2 x3 x4 x9 x10, h⟩ (r13_post_K1 S k)
noncomputable def r13_post_p979 (S : List AV → Hp → Option (ARes × Hp)) (k : Nat) (N244 M244 : Nat) (x1 : Int) (x2 : AV) (x3 : AV) (x4 : AV) (x9 : AV) (x10 : Int) (h : Hp) : Option (ARes × Hp) := pnt (r13_post_c S k 979) ⟨r13_post_T979 x1 x2 x3 x4 x9 x10, h⟩ (r13_post_K2 S k N244 M244)
noncomputable def r13_post_p31 (S : List AV → Hp → Option (ARes × Hp)) (k : Nat) (x1 : Int) (x3 : AV) (h : Hp) : Option (ARes × Hp) := pnt (r13_post_c S k 31) ⟨r13_post_T31 x1 x3, h⟩ (finA Try.prog Try.f53)
theorem r13_post_l244_eq (S : List AV → Hp → Option (ARes × Hp)) (k : Nat) (N244 M244 : Nat) (x1 : Int) (x2 : AV) (x3 : AV) (x4 : AV) (x9 : AV) (x10 : Int) (h : Hp) : r13_post_l244 S k (N244 + 1) M244 x1 x2 x3 x4 x9 x10 h = lna x9 fun n10 => bsp ((decide (x10 < n10))) (ixa 1 x9 x10 fun p11 => ldi .i64 h p11 fun n12 => ixa 1 x2 n12 fun p13 => ldb h p13 fun b14 => bsp ((!b14)) (ldg 4 h x4 fun v15 => ixa 1 x9 x10 fun p16 => ldi .i64 h p16 fun n17 => callG S h [v15, (.rv (.int .i64 n17)), x2, x3] (fun r18 h20 => r13_post_p979 S k N244 M244 (x1) x2 r18 x4 x9 (x10) (h20)) (fun q19 h21 => none)) (r13_post_p979 S k N244 M244 (x1) x2 x3 x4 x9 (x10) (h))) (r13_post_p31 S k (x1) x3 (h)) := nrfl (by kernel_rfl)
theorem r13_post_p979_eq (S : List AV → Hp → Option (ARes × Hp)) (k : Nat) (N244 M244 : Nat) (x1 : Int) (x2 : AV) (x3 : AV) (x4 : AV) (x9 : AV) (x10 : Int) (h : Hp) : r13_post_p979 S k N244 M244 x1 x2 x3 x4 x9 x10 h = r13_post_l244 S k N244 M244 (x1) x2 x3 x4 x9 ((wri .i64 (x10 + 1))) (h) := nrfl (by kernel_rfl)
theorem r13_post_p31_eq (S : List AV → Hp → Option (ARes × Hp)) (k : Nat) (x1 : Int) (x3 : AV) (h : Hp) : r13_post_p31 S k x1 x3 h = bsl 1 1 [(.rv (.int .i64 0))] [(some (0, 1), (.rv (.int .i64 x1)))] h fun v22 h23 => apn 1 8 h23 x3 v22 fun v24 h25 => some (.ret v24, h25) := nrfl (by kernel_rfl)
theorem r13_post_eq (S : List AV → Hp → Option (ARes × Hp)) (k : Nat) (x0 : AV) (x1 : Int) (x2 : AV) (x3 : AV) (h : Hp) : fnA Try.prog (r13_post_G S) r13_post_A r13_post_R k Try.f53 [x0, (.rv (.int .i64 x1)), x2, x3] h = nwc 1 (vcells x0) h fun p1 h2 => ixa 1 x2 x1 fun p3 => stv 1 h2 p3 (.rv (.bool true)) fun h4 => pad p1 3 fun p5 => ldv h4 p5 fun v6 => ixa 6 v6 x1 fun p7 => pad p7 4 fun p8 => ldv h4 p8 fun v9 => r13_post_l244 S k k h4.length (x1) x2 x3 p1 v9 (0) (h4) := nrfl (by kernel_rfl)
theorem r13_post_good (S : List AV → Hp → Option (ARes × Hp)) (hS : GoodC Try.prog 53 (.gen S)) : Good Try.prog (r13_post_G S) := by
  intro f c hc
  unfold r13_post_G at hc
  split at hc
  · cases hc; exact hS
  · cases hc
noncomputable def GR_r13_post : Nat → List AV → Hp → Option (ARes × Hp)
  | 0 => fun _ _ => none
  | n + 1 => fun xs h => fnA Try.prog (r13_post_G (GR_r13_post n)) r13_post_A r13_post_R big Try.f53 xs h
noncomputable def G_r13_post : List AV → Hp → Option (ARes × Hp) := GR_r13_post big
theorem GR_r13_post_succ (n : Nat) (xs : List AV) (h : Hp) : GR_r13_post (n + 1) xs h = fnA Try.prog (r13_post_G (GR_r13_post n)) r13_post_A r13_post_R big Try.f53 xs h := nrfl rfl
theorem goodR_r13_post : ∀ n, GoodC Try.prog 53 (.gen (GR_r13_post n))
  | 0 => ⟨Go.Proofs.enters_of (by kernel_rfl : Try.prog.funcs[53]? = some Try.f53) rfl rfl, fun _ _ _ _ h => by cases h⟩
  | n + 1 => goodG mixed (r13_post_good _ (goodR_r13_post n)) (by kernel_rfl : Try.prog.funcs[53]? = some Try.f53) rfl rfl (fun xs h x e => ⟨big, e⟩)
theorem good_r13_post : GoodC Try.prog 53 (.gen G_r13_post) := goodR_r13_post big

/-! gantry/gantryref13.Post -/
abbrev id_r13_Post : FuncId := 21
noncomputable def r13_Post_G : FuncId → Option Callee := fun f => match f with
  | 53 => some (.gen G_r13_post)
  | _ => none
def r13_Post_A : Ann := []
def r13_Post_R : List Nat := []
noncomputable def r13_Post_c (k pos : Nat) : St → Cont (ARes × Hp) → Option (ARes × Hp) := acode Try.prog r13_Post_G r13_Post_A r13_Post_R k (cdAt (pathOf pos) (bodyOf Try.f21)) pos
theorem r13_Post_eq (k : Nat) (x0 : AV) (h : Hp) : fnA Try.prog r13_Post_G r13_Post_A r13_Post_R k Try.f21 [x0] h = nwc 1 (vcells x0) h fun p1 h2 => ldg 4 h2 p1 fun v3 => pad p1 3 fun p4 => ldv h2 p4 fun v5 => lna v5 fun n6 => mks 1 1 [(.rv (.bool false))] h2 n6 fun v7 h8 => svg 4 h8 p1 v3 (callG G_r13_post h8 [v3, (.rv (.int .i64 0)), v7, (.rv .nils)] (fun r9 h11 => some (.ret r9, h11)) (fun q10 h12 => none)) := nrfl (by kernel_rfl)
theorem r13_Post_good : Good Try.prog r13_Post_G := by
  intro f c hc
  unfold r13_Post_G at hc
  split at hc
  · cases hc; exact good_r13_post
  · cases hc
noncomputable def F_r13_Post : List RV → Option Res := fun rs => pureR (fnA Try.prog r13_Post_G r13_Post_A r13_Post_R big Try.f21 (rs.map .rv) [])
theorem good_r13_Post : GoodC Try.prog 21 (.pure F_r13_Post) := goodP mixed r13_Post_good (by kernel_rfl : Try.prog.funcs[21]? = some Try.f21) rfl rfl (fun rs r h => ⟨big, h⟩)

/-! gantry/gantryref13.Doms -/
abbrev id_r13_Doms : FuncId := 22
noncomputable def r13_Doms_G : FuncId → Option Callee := fun f => match f with
  | 12 => some (.pure F_r13_Hole)
  | 17 => some (.pure F_r13_Reached)
  | _ => none
def r13_Doms_A : Ann := [(31, [1, 3, 4]), (63, [1, 3, 4]), (127, [3]), (244, [1, 3, 4, 5]), (500, [1, 3, 4, 6]), (1012, [1, 3, 4, 9]), (2003, [1, 3, 4, 6]), (4051, [1, 3, 4, 9]), (128156, [1, 3, 4, 6, 7, 8]), (259228, [1, 3, 4, 9, 10, 11]), (512627, [1, 3, 4, 6, 7, 8]), (1036915, [1, 3, 4, 9, 10, 11]), (2050505, [1, 3, 4, 6, 7, 8, 70]), (4147657, [1, 3, 4, 9, 10, 11, 130])]
def r13_Doms_R : List Nat := []
noncomputable def r13_Doms_c (k pos : Nat) : St → Cont (ARes × Hp) → Option (ARes × Hp) := acode Try.prog r13_Doms_G r13_Doms_A r13_Doms_R k (cdAt (pathOf pos) (bodyOf Try.f22)) pos
def r13_Doms_T244 (x1 : AV) (x3 : AV) (x4 : AV) (x5 : Int) : List AV := an 1 (x1 :: an 1 (x3 :: x4 :: (.rv (.int .i64 x5)) :: an 130 ([])))
def r13_Doms_T31 (x1 : AV) (x3 : AV) (x4 : AV) : List AV := an 1 (x1 :: an 1 (x3 :: x4 :: an 131 ([])))
def r13_Doms_T500 (x1 : AV) (x3 : AV) (x4 : AV) (x6 : Int) : List AV := an 1 (x1 :: an 1 (x3 :: x4 :: an 1 ((.rv (.int .i64 x6)) :: an 129 ([]))))
def r13_Doms_T2003 (x1 : AV) (x3 : AV) (x4 : AV) (x6 : Int) : List AV := an 1 (x1 :: an 1 (x3 :: x4 :: an 1 ((.rv (.int .i64 x6)) :: an 129 ([]))))
def r13_Doms_T128156 (x1 : AV) (x3 : AV) (x4 : AV) (x6 : Int) (x7 : AV) (x8 : Int) : List AV := an 1 (x1 :: an 1 (x3 :: x4 :: an 1 ((.rv (.int .i64 x6)) :: x7 :: (.rv (.int .i64 x8)) :: an 127 ([]))))
def r13_Doms_T63 (x1 : AV) (x3 : AV) (x4 : AV) : List AV := an 1 (x1 :: an 1 (x3 :: x4 :: an 131 ([])))
def r13_Doms_T2050505 (x1 : AV) (x3 : AV) (x4 : AV) (x6 : Int) (x7 : AV) (x8 : Int) (x70 : Bool) : List AV := an 1 (x1 :: an 1 (x3 :: x4 :: an 1 ((.rv (.int .i64 x6)) :: x7 :: (.rv (.int .i64 x8)) :: an 61 ((.rv (.bool x70)) :: an 65 ([])))))
def r13_Doms_T1012 (x1 : AV) (x3 : AV) (x4 : AV) (x9 : Int) : List AV := an 1 (x1 :: an 1 (x3 :: x4 :: an 4 ((.rv (.int .i64 x9)) :: an 126 ([]))))
def r13_Doms_T512627 (x1 : AV) (x3 : AV) (x4 : AV) (x6 : Int) (x7 : AV) (x8 : Int) : List AV := an 1 (x1 :: an 1 (x3 :: x4 :: an 1 ((.rv (.int .i64 x6)) :: x7 :: (.rv (.int .i64 x8)) :: an 127 ([]))))
def r13_Doms_T4051 (x1 : AV) (x3 : AV) (x4 : AV) (x9 : Int) : List AV := an 1 (x1 :: an 1 (x3 :: x4 :: an 4 ((.rv (.int .i64 x9)) :: an 126 ([]))))
def r13_Doms_T259228 (x1 : AV) (x3 : AV) (x4 : AV) (x9 : Int) (x10 : AV) (x11 : Int) : List AV := an 1 (x1 :: an 1 (x3 :: x4 :: an 4 ((.rv (.int .i64 x9)) :: x10 :: (.rv (.int .i64 x11)) :: an 124 ([]))))
def r13_Doms_T127 (x3 : AV) : List AV := an 3 (x3 :: an 132 ([]))
def r13_Doms_T4147657 (x1 : AV) (x3 : AV) (x4 : AV) (x9 : Int) (x10 : AV) (x11 : Int) (x130 : Bool) : List AV := an 1 (x1 :: an 1 (x3 :: x4 :: an 4 ((.rv (.int .i64 x9)) :: x10 :: (.rv (.int .i64 x11)) :: an 118 ((.rv (.bool x130)) :: an 5 ([])))))
def r13_Doms_T1036915 (x1 : AV) (x3 : AV) (x4 : AV) (x9 : Int) (x10 : AV) (x11 : Int) : List AV := an 1 (x1 :: an 1 (x3 :: x4 :: an 4 ((.rv (.int .i64 x9)) :: x10 :: (.rv (.int .i64 x11)) :: an 124 ([]))))
noncomputable def r13_Doms_K0 (k : Nat) : Cont (ARes × Hp) := seqK (r13_Doms_c k 31) true (clrA r13_Doms_A 31) (finA Try.prog Try.f22)
noncomputable def r13_Doms_K1 (k : Nat) : Cont (ARes × Hp) := blkK 0 (r13_Doms_K0 k)
noncomputable def r13_Doms_K2 (k : Nat) : Cont (ARes × Hp) := seqK (r13_Doms_c k 63) true (clrA r13_Doms_A 63) (finA Try.prog Try.f22)
noncomputable def r13_Doms_K3 (k : Nat) : Cont (ARes × Hp) := blkK 2 (r13_Doms_K2 k)
noncomputable def r13_Doms_K4 (k : Nat) (N500 M500 : Nat) : Cont (ARes × Hp) := itK (aloop (r13_Doms_c k 500) (clrA r13_Doms_A 500) (trimOf r13_Doms_R 500) M500 N500) (clrA r13_Doms_A 500) (trimOf r13_Doms_R 500) M500 (r13_Doms_K3 k)
noncomputable def r13_Doms_K5 (k : Nat) (N500 M500 : Nat) : Cont (ARes × Hp) := seqK (r13_Doms_c k 2003) true (clrA r13_Doms_A 2003) (r13_Doms_K4 k N500 M500)
noncomputable def r13_Doms_K6 (k : Nat) (N500 M500 : Nat) : Cont (ARes × Hp) := blkK 3 (r13_Doms_K5 k N500 M500)
noncomputable def r13_Doms_K7 (k : Nat) (N500 M500 : Nat) : Cont (ARes × Hp) := blkK 4 (r13_Doms_K6 k N500 M500)
noncomputable def r13_Doms_K8 (k : Nat) (N500 M500 : Nat) (N128156 M128156 : Nat) : Cont (ARes × Hp) := itK (aloop (r13_Doms_c k 128156) (clrA r13_Doms_A 128156) (trimOf r13_Doms_R 128156) M128156 N128156) (clrA r13_Doms_A 128156) (trimOf r13_Doms_R 128156) M128156 (r13_Doms_K7 k N500 M500)
noncomputable def r13_Doms_K9 (k : Nat) (N500 M500 : Nat) (N128156 M128156 : Nat) : Cont (ARes × Hp) := seqK (r13_Doms_c k 512627) true (clrA r13_Doms_A 512627) (r13_Doms_K8 k N500 M500 N128156 M128156)
noncomputable def r13_Doms_K10 (k : Nat) (N500 M500 : Nat) (N128156 M128156 : Nat) : Cont (ARes × Hp) := blkK 5 (r13_Doms_K9 k N500 M500 N128156 M128156)
noncomputable def r13_Doms_K11 (k : Nat) : Cont (ARes × Hp) := seqK (r13_Doms_c k 127) true (clrA r13_Doms_A 127) (finA Try.prog Try.f22)
noncomputable def r13_Doms_K12 (k : Nat) : Cont (ARes × Hp) := blkK 6 (r13_Doms_K11 k)
noncomputable def r13_Doms_K13 (k : Nat) (N1012 M1012 : Nat) : Cont (ARes × Hp) := itK (aloop (r13_Doms_c k 1012) (clrA r13_Doms_A 1012) (trimOf r13_Doms_R 1012) M1012 N1012) (clrA r13_Doms_A 1012) (trimOf r13_Doms_R 1012) M1012 (r13_Doms_K12 k)
noncomputable def r13_Doms_K14 (k : Nat) (N1012 M1012 : Nat) : Cont (ARes × Hp) := seqK (r13_Doms_c k 4051) true (clrA r13_Doms_A 4051) (r13_Doms_K13 k N1012 M1012)
noncomputable def r13_Doms_K15 (k : Nat) (N1012 M1012 : Nat) : Cont (ARes × Hp) := blkK 7 (r13_Doms_K14 k N1012 M1012)
noncomputable def r13_Doms_K16 (k : Nat) (N1012 M1012 : Nat) : Cont (ARes × Hp) := blkK 8 (r13_Doms_K15 k N1012 M1012)
noncomputable def r13_Doms_K17 (k : Nat) (N1012 M1012 : Nat) (N259228 M259228 : Nat) : Cont (ARes × Hp) := itK (aloop (r13_Doms_c k 259228) (clrA r13_Doms_A 259228) (trimOf r13_Doms_R 259228) M259228 N259228) (clrA r13_Doms_A 259228) (trimOf r13_Doms_R 259228) M259228 (r13_Doms_K16 k N1012 M1012)
noncomputable def r13_Doms_K18 (k : Nat) (N1012 M1012 : Nat) (N259228 M259228 : Nat) : Cont (ARes × Hp) := seqK (r13_Doms_c k 1036915) true (clrA r13_Doms_A 1036915) (r13_Doms_K17 k N1012 M1012 N259228 M259228)
noncomputable def r13_Doms_K19 (k : Nat) (N1012 M1012 : Nat) (N259228 M259228 : Nat) : Cont (ARes × Hp) := blkK 9 (r13_Doms_K18 k N1012 M1012 N259228 M259228)
noncomputable def r13_Doms_l244 (k : Nat) (N244 M244 : Nat) (x1 : AV) (x3 : AV) (x4 : AV) (x5 : Int) (h : Hp) : Option (ARes × Hp) := aloop (r13_Doms_c k 244) (clrA r13_Doms_A 244) (trimOf r13_Doms_R 244) M244 N244 ⟨r13_Doms_T244 x1 x3 x4 x5, h⟩ (r13_Doms_K1 k)
noncomputable def r13_Doms_p31 (k : Nat) (x1 : AV) (x3 : AV) (x4 : AV) (h : Hp) : Option (ARes × Hp) := pnt (r13_Doms_c k 31) ⟨r13_Doms_T31 x1 x3 x4, h⟩ (finA Try.prog Try.f22)
noncomputable def r13_Doms_l500 (k : Nat) (N500 M500 : Nat) (x1 : AV) (x3 : AV) (x4 : AV) (x6 : Int) (h : Hp) : Option (ARes × Hp) := aloop (r13_Doms_c k 500) (clrA r13_Doms_A 500) (trimOf r13_Doms_R 500) M500 N500 ⟨r13_Doms_T500 x1 x3 x4 x6, h⟩ (r13_Doms_K3 k)
noncomputable def r13_Doms_p2003 (k : Nat) (N500 M500 : Nat) (x1 : AV) (x3 : AV) (x4 : AV) (x6 : Int) (h : Hp) : Option (ARes × Hp) := pnt (r13_Doms_c k 2003) ⟨r13_Doms_T2003 x1 x3 x4 x6, h⟩ (r13_Doms_K4 k N500 M500)
noncomputable def r13_Doms_l128156 (k : Nat) (N500 M500 : Nat) (N128156 M128156 : Nat) (x1 : AV) (x3 : AV) (x4 : AV) (x6 : Int) (x7 : AV) (x8 : Int) (h : Hp) : Option (ARes × Hp) := aloop (r13_Doms_c k 128156) (clrA r13_Doms_A 128156) (trimOf r13_Doms_R 128156) M128156 N128156 ⟨r13_Doms_T128156 x1 x3 x4 x6 x7 x8, h⟩ (r13_Doms_K7 k N500 M500)
noncomputable def r13_Doms_p63 (k : Nat) (x1 : AV) (x3 : AV) (x4 : AV) (h : Hp) : Option (ARes × Hp) := pnt (r13_Doms_c k 63) ⟨r13_Doms_T63 x1 x3 x4, h⟩ (finA Try.prog Try.f22)
noncomputable def r13_Doms_p2050505 (k : Nat) (N500 M500 : Nat) (N128156 M128156 : Nat) (x1 : AV) (x3 : AV) (x4 : AV) (x6 : Int) (x7 : AV) (x8 : Int) (x70 : Bool) (h : Hp) : Option (ARes × Hp) := pnt (r13_Doms_c k 2050505) ⟨r13_Doms_T2050505 x1 x3 x4 x6 x7 x8 x70, h⟩ (r13_Doms_K10 k N500 M500 N128156 M128156)
noncomputable def r13_Doms_l1012 (k : Nat) (N1012 M1012 : Nat) (x1 : AV) (x3 : AV) (x4 : AV) (x9 : Int) (h : Hp) : Option (ARes × Hp) := aloop (r13_Doms_c k 1012) (clrA r13_Doms_A 1012) (trimOf r13_Doms_R 1012) M1012 N1012 ⟨r13_Doms_T1012 x1 x3 x4 x9, h⟩ (r13_Doms_K12 k)
noncomputable def r13_Doms_p512627 (k : Nat) (N500 M500 : Nat) (N128156 M128156 : Nat) (x1 : AV) (x3 : AV) (x4 : AV) (x6 : Int) (x7 : AV) (x8 : Int) (h : Hp) : Option (ARes × Hp) := pnt (r13_Doms_c k 512627) ⟨r13_Doms_T512627 x1 x3 x4 x6 x7 x8, h⟩ (r13_Doms_K8 k N500 M500 N128156 M128156)
noncomputable def r13_Doms_p4051 (k : Nat) (N1012 M1012 : Nat) (x1 : AV) (x3 : AV) (x4 : AV) (x9 : Int) (h : Hp) : Option (ARes × Hp) := pnt (r13_Doms_c k 4051) ⟨r13_Doms_T4051 x1 x3 x4 x9, h⟩ (r13_Doms_K13 k N1012 M1012)
noncomputable def r13_Doms_l259228 (k : Nat) (N1012 M1012 : Nat) (N259228 M259228 : Nat) (x1 : AV) (x3 : AV) (x4 : AV) (x9 : Int) (x10 : AV) (x11 : Int) (h : Hp) : Option (ARes × Hp) := aloop (r13_Doms_c k 259228) (clrA r13_Doms_A 259228) (trimOf r13_Doms_R 259228) M259228 N259228 ⟨r13_Doms_T259228 x1 x3 x4 x9 x10 x11, h⟩ (r13_Doms_K16 k N1012 M1012)
noncomputable def r13_Doms_p127 (k : Nat) (x3 : AV) (h : Hp) : Option (ARes × Hp) := pnt (r13_Doms_c k 127) ⟨r13_Doms_T127 x3, h⟩ (finA Try.prog Try.f22)
noncomputable def r13_Doms_p4147657 (k : Nat) (N1012 M1012 : Nat) (N259228 M259228 : Nat) (x1 : AV) (x3 : AV) (x4 : AV) (x9 : Int) (x10 : AV) (x11 : Int) (x130 : Bool) (h : Hp) : Option (ARes × Hp) := pnt (r13_Doms_c k 4147657) ⟨r13_Doms_T4147657 x1 x3 x4 x9 x10 x11 x130, h⟩ (r13_Doms_K19 k N1012 M1012 N259228 M259228)
noncomputable def r13_Doms_p1036915 (k : Nat) (N1012 M1012 : Nat) (N259228 M259228 : Nat) (x1 : AV) (x3 : AV) (x4 : AV) (x9 : Int) (x10 : AV) (x11 : Int) (h : Hp) : Option (ARes × Hp) := pnt (r13_Doms_c k 1036915) ⟨r13_Doms_T1036915 x1 x3 x4 x9 x10 x11, h⟩ (r13_Doms_K17 k N1012 M1012 N259228 M259228)
theorem r13_Doms_l244_eq (k : Nat) (N244 M244 : Nat) (x1 : AV) (x3 : AV) (x4 : AV) (x5 : Int) (h : Hp) : r13_Doms_l244 k (N244 + 1) M244 x1 x3 x4 x5 h = lna x3 fun n13 => bsp ((decide (x5 < n13))) (ixa 1 x3 x5 fun p14 => stv 1 h p14 (.rv (.int .i64 (-1))) fun h15 => r13_Doms_l244 k N244 M244 x1 x3 x4 ((wri .i64 (x5 + 1))) (h15)) (r13_Doms_p31 k x1 x3 x4 (h)) := nrfl (by kernel_rfl)
theorem r13_Doms_p31_eq (k : Nat) (x1 : AV) (x3 : AV) (x4 : AV) (h : Hp) : r13_Doms_p31 k x1 x3 x4 h = r13_Doms_l500 k k h.length x1 x3 x4 (0) (h) := nrfl (by kernel_rfl)
theorem r13_Doms_l500_eq (k : Nat) (N500 M500 : Nat) (x1 : AV) (x3 : AV) (x4 : AV) (x6 : Int) (h : Hp) : r13_Doms_l500 k (N500 + 1) M500 x1 x3 x4 x6 h = pad x1 3 fun p16 => ldv h p16 fun v17 => lna v17 fun n18 => bsp ((decide (x6 < n18))) (pad x1 3 fun p19 => ldv h p19 fun v20 => ixa 6 v20 x6 fun p21 => ldg 6 h p21 fun v22 => callP F_r13_Hole h [v22] (fun r23 => asBool r23 fun b25 => bsp (b25) (r13_Doms_p2003 k N500 M500 x1 x3 x4 (x6) (h)) (ldg 4 h x1 fun v26 => callP F_r13_Reached h [v26, (.rv (.int .i64 x6))] (fun r27 => r13_Doms_l128156 k N500 M500 k h.length x1 x3 x4 (x6) r27 (0) (h)) (fun q28 => some (.pan q28, h)))) (fun q24 => some (.pan q24, h))) (r13_Doms_p63 k x1 x3 x4 (h)) := nrfl (by kernel_rfl)
theorem r13_Doms_p2003_eq (k : Nat) (N500 M500 : Nat) (x1 : AV) (x3 : AV) (x4 : AV) (x6 : Int) (h : Hp) : r13_Doms_p2003 k N500 M500 x1 x3 x4 x6 h = r13_Doms_l500 k N500 M500 x1 x3 x4 ((wri .i64 (x6 + 1))) (h) := nrfl (by kernel_rfl)
theorem r13_Doms_l128156_eq (k : Nat) (N500 M500 : Nat) (N128156 M128156 : Nat) (x1 : AV) (x3 : AV) (x4 : AV) (x6 : Int) (x7 : AV) (x8 : Int) (h : Hp) : r13_Doms_l128156 k N500 M500 (N128156 + 1) M128156 x1 x3 x4 x6 x7 x8 h = pad x1 3 fun p29 => ldv h p29 fun v30 => lna v30 fun n31 => bsp ((decide (x8 < n31))) (bsp ((x8 != x6)) (pad x1 3 fun p32 => ldv h p32 fun v33 => ixa 6 v33 x8 fun p34 => ldg 6 h p34 fun v35 => callP F_r13_Hole h [v35] (fun r36 => asBool r36 fun b38 => bsp ((!b38)) (ixa 1 x7 x8 fun p39 => ldb h p39 fun b40 => r13_Doms_p2050505 k N500 M500 N128156 M128156 x1 x3 x4 (x6) x7 (x8) ((!b40)) (h)) (r13_Doms_p2050505 k N500 M500 N128156 M128156 x1 x3 x4 (x6) x7 (x8) (false) (h))) (fun q37 => some (.pan q37, h))) (r13_Doms_p2050505 k N500 M500 N128156 M128156 x1 x3 x4 (x6) x7 (x8) (false) (h))) (r13_Doms_p2003 k N500 M500 x1 x3 x4 (x6) (h)) := nrfl (by kernel_rfl)
theorem r13_Doms_p63_eq (k : Nat) (x1 : AV) (x3 : AV) (x4 : AV) (h : Hp) : r13_Doms_p63 k x1 x3 x4 h = r13_Doms_l1012 k k h.length x1 x3 x4 (0) (h) := nrfl (by kernel_rfl)
theorem r13_Doms_p2050505_eq (k : Nat) (N500 M500 : Nat) (N128156 M128156 : Nat) (x1 : AV) (x3 : AV) (x4 : AV) (x6 : Int) (x7 : AV) (x8 : Int) (x70 : Bool) (h : Hp) : r13_Doms_p2050505 k N500 M500 N128156 M128156 x1 x3 x4 x6 x7 x8 x70 h = bsp (x70) (ixa 1 x4 x8 fun p41 => ldi .i64 h p41 fun n42 => ixa 1 x4 x8 fun p43 => stv 1 h p43 (.rv (.int .i64 (wri .i64 (n42 + 1)))) fun h44 => r13_Doms_p512627 k N500 M500 N128156 M128156 x1 x3 x4 (x6) x7 (x8) (h44)) (r13_Doms_p512627 k N500 M500 N128156 M128156 x1 x3 x4 (x6) x7 (x8) (h)) := nrfl (by kernel_rfl)
theorem r13_Doms_l1012_eq (k : Nat) (N1012 M1012 : Nat) (x1 : AV) (x3 : AV) (x4 : AV) (x9 : Int) (h : Hp) : r13_Doms_l1012 k (N1012 + 1) M1012 x1 x3 x4 x9 h = pad x1 3 fun p45 => ldv h p45 fun v46 => lna v46 fun n47 => bsp ((decide (x9 < n47))) (pad x1 3 fun p48 => ldv h p48 fun v49 => ixa 6 v49 x9 fun p50 => ldg 6 h p50 fun v51 => callP F_r13_Hole h [v51] (fun r52 => asBool r52 fun b54 => bsp (b54) (r13_Doms_p4051 k N1012 M1012 x1 x3 x4 (x9) (h)) (ldg 4 h x1 fun v55 => callP F_r13_Reached h [v55, (.rv (.int .i64 x9))] (fun r56 => r13_Doms_l259228 k N1012 M1012 k h.length x1 x3 x4 (x9) r56 (0) (h)) (fun q57 => some (.pan q57, h)))) (fun q53 => some (.pan q53, h))) (r13_Doms_p127 k x3 (h)) := nrfl (by kernel_rfl)
theorem r13_Doms_p512627_eq (k : Nat) (N500 M500 : Nat) (N128156 M128156 : Nat) (x1 : AV) (x3 : AV) (x4 : AV) (x6 : Int) (x7 : AV) (x8 : Int) (h : Hp) : r13_Doms_p512627 k N500 M500 N128156 M128156 x1 x3 x4 x6 x7 x8 h = r13_Doms_l128156 k N500 M500 N128156 M128156 x1 x3 x4 (x6) x7 ((wri .i64 (x8 + 1))) (h) := nrfl (by kernel_rfl)
theorem r13_Doms_p4051_eq (k : Nat) (N1012 M1012 : Nat) (x1 : AV) (x3 : AV) (x4 : AV) (x9 : Int) (h : Hp) : r13_Doms_p4051 k N1012 M1012 x1 x3 x4 x9 h = r13_Doms_l1012 k N1012 M1012 x1 x3 x4 ((wri .i64 (x9 + 1))) (h) := nrfl (by kernel_rfl)
theorem r13_Doms_l259228_eq (k : Nat) (N1012 M1012 : Nat) (N259228 M259228 : Nat) (x1 : AV) (x3 : AV) (x4 : AV) (x9 : Int) (x10 : AV) (x11 : Int) (h : Hp) : r13_Doms_l259228 k N1012 M1012 (N259228 + 1) M259228 x1 x3 x4 x9 x10 x11 h = pad x1 3 fun p58 => ldv h p58 fun v59 => lna v59 fun n60 => bsp ((decide (x11 < n60))) (bsp ((x11 != x9)) (pad x1 3 fun p61 => ldv h p61 fun v62 => ixa 6 v62 x11 fun p63 => ldg 6 h p63 fun v64 => callP F_r13_Hole h [v64] (fun r65 => asBool r65 fun b67 => bsp ((!b67)) (ixa 1 x10 x11 fun p68 => ldb h p68 fun b69 => bsp ((!b69)) (ixa 1 x4 x11 fun p70 => ldi .i64 h p70 fun n71 => ixa 1 x4 x9 fun p72 => ldi .i64 h p72 fun n73 => r13_Doms_p4147657 k N1012 M1012 N259228 M259228 x1 x3 x4 (x9) x10 (x11) ((n71 == (wri .i64 (n73 + 1)))) (h)) (r13_Doms_p4147657 k N1012 M1012 N259228 M259228 x1 x3 x4 (x9) x10 (x11) (false) (h))) (r13_Doms_p4147657 k N1012 M1012 N259228 M259228 x1 x3 x4 (x9) x10 (x11) (false) (h))) (fun q66 => none)) (r13_Doms_p4147657 k N1012 M1012 N259228 M259228 x1 x3 x4 (x9) x10 (x11) (false) (h))) (r13_Doms_p4051 k N1012 M1012 x1 x3 x4 (x9) (h)) := nrfl (by kernel_rfl)
theorem r13_Doms_p127_eq (k : Nat) (x3 : AV) (h : Hp) : r13_Doms_p127 k x3 h = some (.ret x3, h) := nrfl (by kernel_rfl)
theorem r13_Doms_p4147657_eq (k : Nat) (N1012 M1012 : Nat) (N259228 M259228 : Nat) (x1 : AV) (x3 : AV) (x4 : AV) (x9 : Int) (x10 : AV) (x11 : Int) (x130 : Bool) (h : Hp) : r13_Doms_p4147657 k N1012 M1012 N259228 M259228 x1 x3 x4 x9 x10 x11 x130 h = bsp (x130) (ixa 1 x3 x11 fun p74 => stv 1 h p74 (.rv (.int .i64 x9)) fun h75 => r13_Doms_p1036915 k N1012 M1012 N259228 M259228 x1 x3 x4 (x9) x10 (x11) (h75)) (r13_Doms_p1036915 k N1012 M1012 N259228 M259228 x1 x3 x4 (x9) x10 (x11) (h)) := nrfl (by kernel_rfl)
theorem r13_Doms_p1036915_eq (k : Nat) (N1012 M1012 : Nat) (N259228 M259228 : Nat) (x1 : AV) (x3 : AV) (x4 : AV) (x9 : Int) (x10 : AV) (x11 : Int) (h : Hp) : r13_Doms_p1036915 k N1012 M1012 N259228 M259228 x1 x3 x4 x9 x10 x11 h = r13_Doms_l259228 k N1012 M1012 N259228 M259228 x1 x3 x4 (x9) x10 ((wri .i64 (x11 + 1))) (h) := nrfl (by kernel_rfl)
theorem r13_Doms_eq (k : Nat) (x0 : AV) (h : Hp) : fnA Try.prog r13_Doms_G r13_Doms_A r13_Doms_R k Try.f22 [x0] h = nwc 1 (vcells x0) h fun p1 h2 => pad p1 3 fun p3 => ldv h2 p3 fun v4 => lna v4 fun n5 => mks 1 8 [(.rv (.int .i64 0))] h2 n5 fun v6 h7 => pad p1 3 fun p8 => ldv h7 p8 fun v9 => lna v9 fun n10 => mks 1 8 [(.rv (.int .i64 0))] h7 n10 fun v11 h12 => r13_Doms_l244 k k h12.length p1 v6 v11 (0) (h12) := nrfl (by kernel_rfl)
theorem r13_Doms_good : Good Try.prog r13_Doms_G := by
  intro f c hc
  unfold r13_Doms_G at hc
  split at hc
  · cases hc; exact good_r13_Hole
  · cases hc; exact good_r13_Reached
  · cases hc
noncomputable def F_r13_Doms : List RV → Option Res := fun rs => pureR (fnA Try.prog r13_Doms_G r13_Doms_A r13_Doms_R big Try.f22 (rs.map .rv) [])
theorem good_r13_Doms : GoodC Try.prog 22 (.pure F_r13_Doms) := goodP mixed r13_Doms_good (by kernel_rfl : Try.prog.funcs[22]? = some Try.f22) rfl rfl (fun rs r h => ⟨big, h⟩)

/-! gantry/gantryref13.body -/
abbrev id_r13_body : FuncId := 55
noncomputable def r13_body_G : FuncId → Option Callee := fun f => match f with
  | 29 => some (.pure F_r13_Dominates)
  | _ => none
def r13_body_A : Ann := [(63, [3, 7, 8]), (127, [7]), (500, [1, 2, 3, 7, 8, 9]), (511, [14]), (1012, [3, 7, 8, 11]), (2003, [1, 2, 3, 7, 8, 9]), (4051, [3, 7, 8, 11]), (4084, [7, 14, 15]), (16019, [1, 2, 3, 7, 8, 9, 10, 53]), (16339, [7, 14, 15]), (129612, [3, 7, 8, 11, 12, 13]), (518451, [3, 7, 8, 11, 12, 13])]
def r13_body_R : List Nat := []
noncomputable def r13_body_c (k pos : Nat) : St → Cont (ARes × Hp) → Option (ARes × Hp) := acode Try.prog r13_body_G r13_body_A r13_body_R k (cdAt (pathOf pos) (bodyOf Try.f55)) pos
def r13_body_T500 (x1 : AV) (x2 : Int) (x3 : AV) (x7 : AV) (x8 : AV) (x9 : Int) : List AV := an 1 (x1 :: (.rv (.int .i64 x2)) :: x3 :: an 3 (x7 :: x8 :: (.rv (.int .i64 x9)) :: an 108 ([])))
def r13_body_T16019 (x1 : AV) (x2 : Int) (x3 : AV) (x7 : AV) (x8 : AV) (x9 : Int) (x10 : Int) (x53 : Bool) : List AV := an 1 (x1 :: (.rv (.int .i64 x2)) :: x3 :: an 3 (x7 :: x8 :: (.rv (.int .i64 x9)) :: (.rv (.int .i64 x10)) :: an 42 ((.rv (.bool x53)) :: an 64 ([]))))
def r13_body_T63 (x3 : AV) (x7 : AV) (x8 : AV) : List AV := an 3 (x3 :: an 3 (x7 :: x8 :: an 109 ([])))
def r13_body_T2003 (x1 : AV) (x2 : Int) (x3 : AV) (x7 : AV) (x8 : AV) (x9 : Int) : List AV := an 1 (x1 :: (.rv (.int .i64 x2)) :: x3 :: an 3 (x7 :: x8 :: (.rv (.int .i64 x9)) :: an 108 ([])))
def r13_body_T1012 (x3 : AV) (x7 : AV) (x8 : AV) (x11 : Int) : List AV := an 3 (x3 :: an 3 (x7 :: x8 :: an 2 ((.rv (.int .i64 x11)) :: an 106 ([]))))
def r13_body_T129612 (x3 : AV) (x7 : AV) (x8 : AV) (x11 : Int) (x12 : AV) (x13 : Int) : List AV := an 3 (x3 :: an 3 (x7 :: x8 :: an 2 ((.rv (.int .i64 x11)) :: x12 :: (.rv (.int .i64 x13)) :: an 104 ([]))))
def r13_body_T127 (x7 : AV) : List AV := an 7 (x7 :: an 110 ([]))
def r13_body_T518451 (x3 : AV) (x7 : AV) (x8 : AV) (x11 : Int) (x12 : AV) (x13 : Int) : List AV := an 3 (x3 :: an 3 (x7 :: x8 :: an 2 ((.rv (.int .i64 x11)) :: x12 :: (.rv (.int .i64 x13)) :: an 104 ([]))))
def r13_body_T4051 (x3 : AV) (x7 : AV) (x8 : AV) (x11 : Int) : List AV := an 3 (x3 :: an 3 (x7 :: x8 :: an 2 ((.rv (.int .i64 x11)) :: an 106 ([]))))
def r13_body_T4084 (x7 : AV) (x14 : AV) (x15 : Int) : List AV := an 7 (x7 :: an 6 (x14 :: (.rv (.int .i64 x15)) :: an 102 ([])))
def r13_body_T16339 (x7 : AV) (x14 : AV) (x15 : Int) : List AV := an 7 (x7 :: an 6 (x14 :: (.rv (.int .i64 x15)) :: an 102 ([])))
def r13_body_T511 (x14 : AV) : List AV := an 14 (x14 :: an 103 ([]))
noncomputable def r13_body_K0 (k : Nat) : Cont (ARes × Hp) := seqK (r13_body_c k 63) true (clrA r13_body_A 63) (finA Try.prog Try.f55)
noncomputable def r13_body_K1 (k : Nat) : Cont (ARes × Hp) := blkK 0 (r13_body_K0 k)
noncomputable def r13_body_K2 (k : Nat) (N500 M500 : Nat) : Cont (ARes × Hp) := itK (aloop (r13_body_c k 500) (clrA r13_body_A 500) (trimOf r13_body_R 500) M500 N500) (clrA r13_body_A 500) (trimOf r13_body_R 500) M500 (r13_body_K1 k)
noncomputable def r13_body_K3 (k : Nat) (N500 M500 : Nat) : Cont (ARes × Hp) := seqK (r13_body_c k 2003) true (clrA r13_body_A 2003) (r13_body_K2 k N500 M500)
noncomputable def r13_body_K4 (k : Nat) (N500 M500 : Nat) : Cont (ARes × Hp) := blkK 1 (r13_body_K3 k N500 M500)
noncomputable def r13_body_K5 (k : Nat) : Cont (ARes × Hp) := seqK (r13_body_c k 127) true (clrA r13_body_A 127) (finA Try.prog Try.f55)
noncomputable def r13_body_K6 (k : Nat) : Cont (ARes × Hp) := blkK 2 (r13_body_K5 k)
noncomputable def r13_body_K7 (k : Nat) (N1012 M1012 : Nat) : Cont (ARes × Hp) := itK (aloop (r13_body_c k 1012) (clrA r13_body_A 1012) (trimOf r13_body_R 1012) M1012 N1012) (clrA r13_body_A 1012) (trimOf r13_body_R 1012) M1012 (r13_body_K6 k)
noncomputable def r13_body_K8 (k : Nat) (N1012 M1012 : Nat) : Cont (ARes × Hp) := seqK (r13_body_c k 4051) true (clrA r13_body_A 4051) (r13_body_K7 k N1012 M1012)
noncomputable def r13_body_K9 (k : Nat) (N1012 M1012 : Nat) : Cont (ARes × Hp) := blkK 3 (r13_body_K8 k N1012 M1012)
noncomputable def r13_body_K10 (k : Nat) (N1012 M1012 : Nat) : Cont (ARes × Hp) := blkK 4 (r13_body_K9 k N1012 M1012)
noncomputable def r13_body_K11 (k : Nat) (N1012 M1012 : Nat) (N129612 M129612 : Nat) : Cont (ARes × Hp) := itK (aloop (r13_body_c k 129612) (clrA r13_body_A 129612) (trimOf r13_body_R 129612) M129612 N129612) (clrA r13_body_A 129612) (trimOf r13_body_R 129612) M129612 (r13_body_K10 k N1012 M1012)
noncomputable def r13_body_K12 (k : Nat) : Cont (ARes × Hp) := seqK (r13_body_c k 511) true (clrA r13_body_A 511) (finA Try.prog Try.f55)
noncomputable def r13_body_K13 (k : Nat) : Cont (ARes × Hp) := blkK 6 (r13_body_K12 k)
noncomputable def r13_body_K14 (k : Nat) (N4084 M4084 : Nat) : Cont (ARes × Hp) := itK (aloop (r13_body_c k 4084) (clrA r13_body_A 4084) (trimOf r13_body_R 4084) M4084 N4084) (clrA r13_body_A 4084) (trimOf r13_body_R 4084) M4084 (r13_body_K13 k)
noncomputable def r13_body_l500 (k : Nat) (N500 M500 : Nat) (x1 : AV) (x2 : Int) (x3 : AV) (x7 : AV) (x8 : AV) (x9 : Int) (h : Hp) : Option (ARes × Hp) := aloop (r13_body_c k 500) (clrA r13_body_A 500) (trimOf r13_body_R 500) M500 N500 ⟨r13_body_T500 x1 x2 x3 x7 x8 x9, h⟩ (r13_body_K1 k)
noncomputable def r13_body_p16019 (k : Nat) (N500 M500 : Nat) (x1 : AV) (x2 : Int) (x3 : AV) (x7 : AV) (x8 : AV) (x9 : Int) (x10 : Int) (x53 : Bool) (h : Hp) : Option (ARes × Hp) := pnt (r13_body_c k 16019) ⟨r13_body_T16019 x1 x2 x3 x7 x8 x9 x10 x53, h⟩ (r13_body_K4 k N500 M500)
noncomputable def r13_body_p63 (k : Nat) (x3 : AV) (x7 : AV) (x8 : AV) (h : Hp) : Option (ARes × Hp) := pnt (r13_body_c k 63) ⟨r13_body_T63 x3 x7 x8, h⟩ (finA Try.prog Try.f55)
noncomputable def r13_body_p2003 (k : Nat) (N500 M500 : Nat) (x1 : AV) (x2 : Int) (x3 : AV) (x7 : AV) (x8 : AV) (x9 : Int) (h : Hp) : Option (ARes × Hp) := pnt (r13_body_c k 2003) ⟨r13_body_T2003 x1 x2 x3 x7 x8 x9, h⟩ (r13_body_K2 k N500 M500)
noncomputable def r13_body_l1012 (k : Nat) (N1012 M1012 : Nat) (x3 : AV) (x7 : AV) (x8 : AV) (x11 : Int) (h : Hp) : Option (ARes × Hp) := aloop (r13_body_c k 1012) (clrA r13_body_A 1012) (trimOf r13_body_R 1012) M1012 N1012 ⟨r13_body_T1012 x3 x7 x8 x11, h⟩ (r13_body_K6 k)
noncomputable def r13_body_l129612 (k : Nat) (N1012 M1012 : Nat) (N129612 M129612 : Nat) (x3 : AV) (x7 : AV) (x8 : AV) (x11 : Int) (x12 : AV) (x13 : Int) (h : Hp) : Option (ARes × Hp) := aloop (r13_body_c k 129612) (clrA r13_body_A 129612) (trimOf r13_body_R 129612) M129612 N129612 ⟨r13_body_T129612 x3 x7 x8 x11 x12 x13, h⟩ (r13_body_K10 k N1012 M1012)
noncomputable def r13_body_p127 (k : Nat) (x7 : AV) (h : Hp) : Option (ARes × Hp) := pnt (r13_body_c k 127) ⟨r13_body_T127 x7, h⟩ (finA Try.prog Try.f55)
noncomputable def r13_body_p518451 (k : Nat) (N1012 M1012 : Nat) (N129612 M129612 : Nat) (x3 : AV) (x7 : AV) (x8 : AV) (x11 : Int) (x12 : AV) (x13 : Int) (h : Hp) : Option (ARes × Hp) := pnt (r13_body_c k 518451) ⟨r13_body_T518451 x3 x7 x8 x11 x12 x13, h⟩ (r13_body_K11 k N1012 M1012 N129612 M129612)
noncomputable def r13_body_p4051 (k : Nat) (N1012 M1012 : Nat) (x3 : AV) (x7 : AV) (x8 : AV) (x11 : Int) (h : Hp) : Option (ARes × Hp) := pnt (r13_body_c k 4051) ⟨r13_body_T4051 x3 x7 x8 x11, h⟩ (r13_body_K7 k N1012 M1012)
noncomputable def r13_body_l4084 (k : Nat) (N4084 M4084 : Nat) (x7 : AV) (x14 : AV) (x15 : Int) (h : Hp) : Option (ARes × Hp) := aloop (r13_body_c k 4084) (clrA r13_body_A 4084) (trimOf r13_body_R 4084) M4084 N4084 ⟨r13_body_T4084 x7 x14 x15, h⟩ (r13_body_K13 k)
noncomputable def r13_body_p16339 (k : Nat) (N4084 M4084 : Nat) (x7 : AV) (x14 : AV) (x15 : Int) (h : Hp) : Option (ARes × Hp) := pnt (r13_body_c k 16339) ⟨r13_body_T16339 x7 x14 x15, h⟩ (r13_body_K14 k N4084 M4084)
noncomputable def r13_body_p511 (k : Nat) (x14 : AV) (h : Hp) : Option (ARes × Hp) := pnt (r13_body_c k 511) ⟨r13_body_T511 x14, h⟩ (finA Try.prog Try.f55)
theorem r13_body_l500_eq (k : Nat) (N500 M500 : Nat) (x1 : AV) (x2 : Int) (x3 : AV) (x7 : AV) (x8 : AV) (x9 : Int) (h : Hp) : r13_body_l500 k (N500 + 1) M500 x1 x2 x3 x7 x8 x9 h = pad x3 3 fun p10 => ldv h p10 fun v11 => ixa 6 v11 x2 fun p12 => pad p12 3 fun p13 => ldv h p13 fun v14 => lna v14 fun n15 => bsp ((decide (x9 < n15))) (pad x3 3 fun p16 => ldv h p16 fun v17 => ixa 6 v17 x2 fun p18 => pad p18 3 fun p19 => ldv h p19 fun v20 => ixa 1 v20 x9 fun p21 => ldi .i64 h p21 fun n22 => callP F_r13_Dominates h [x1, (.rv (.int .i64 x2)), (.rv (.int .i64 n22))] (fun r23 => asBool r23 fun b25 => bsp (b25) (ixa 1 x7 n22 fun p26 => ldb h p26 fun b27 => r13_body_p16019 k N500 M500 x1 (x2) x3 x7 x8 (x9) (n22) ((!b27)) (h)) (r13_body_p16019 k N500 M500 x1 (x2) x3 x7 x8 (x9) (n22) (false) (h))) (fun q24 => some (.pan q24, h))) (r13_body_p63 k x3 x7 x8 (h)) := nrfl (by kernel_rfl)
theorem r13_body_p16019_eq (k : Nat) (N500 M500 : Nat) (x1 : AV) (x2 : Int) (x3 : AV) (x7 : AV) (x8 : AV) (x9 : Int) (x10 : Int) (x53 : Bool) (h : Hp) : r13_body_p16019 k N500 M500 x1 x2 x3 x7 x8 x9 x10 x53 h = bsp (x53) (ixa 1 x7 x10 fun p28 => stv 1 h p28 (.rv (.bool true)) fun h29 => bsl 1 1 [(.rv (.int .i64 0))] [(some (0, 1), (.rv (.int .i64 x10)))] h29 fun v30 h31 => apn 1 8 h31 x8 v30 fun v32 h33 => r13_body_p2003 k N500 M500 x1 (x2) x3 x7 v32 (x9) (h33)) (r13_body_p2003 k N500 M500 x1 (x2) x3 x7 x8 (x9) (h)) := nrfl (by kernel_rfl)
theorem r13_body_p63_eq (k : Nat) (x3 : AV) (x7 : AV) (x8 : AV) (h : Hp) : r13_body_p63 k x3 x7 x8 h = r13_body_l1012 k k h.length x3 x7 x8 (0) (h) := nrfl (by kernel_rfl)
theorem r13_body_p2003_eq (k : Nat) (N500 M500 : Nat) (x1 : AV) (x2 : Int) (x3 : AV) (x7 : AV) (x8 : AV) (x9 : Int) (h : Hp) : r13_body_p2003 k N500 M500 x1 x2 x3 x7 x8 x9 h = r13_body_l500 k N500 M500 x1 (x2) x3 x7 x8 ((wri .i64 (x9 + 1))) (h) := nrfl (by kernel_rfl)
theorem r13_body_l1012_eq (k : Nat) (N1012 M1012 : Nat) (x3 : AV) (x7 : AV) (x8 : AV) (x11 : Int) (h : Hp) : r13_body_l1012 k (N1012 + 1) M1012 x3 x7 x8 x11 h = lna x8 fun n34 => bsp ((decide (x11 < n34))) (pad x3 3 fun p35 => ldv h p35 fun v36 => ixa 1 x8 x11 fun p37 => ldi .i64 h p37 fun n38 => ixa 6 v36 n38 fun p39 => pad p39 3 fun p40 => ldv h p40 fun v41 => r13_body_l129612 k N1012 M1012 k h.length x3 x7 x8 (x11) v41 (0) (h)) (r13_body_p127 k x7 (h)) := nrfl (by kernel_rfl)
theorem r13_body_l129612_eq (k : Nat) (N1012 M1012 : Nat) (N129612 M129612 : Nat) (x3 : AV) (x7 : AV) (x8 : AV) (x11 : Int) (x12 : AV) (x13 : Int) (h : Hp) : r13_body_l129612 k N1012 M1012 (N129612 + 1) M129612 x3 x7 x8 x11 x12 x13 h = lna x12 fun n42 => bsp ((decide (x13 < n42))) (ixa 1 x12 x13 fun p43 => ldi .i64 h p43 fun n44 => ixa 1 x7 n44 fun p45 => ldb h p45 fun b46 => bsp ((!b46)) (ixa 1 x12 x13 fun p47 => ldi .i64 h p47 fun n48 => ixa 1 x7 n48 fun p49 => stv 1 h p49 (.rv (.bool true)) fun h50 => ixa 1 x12 x13 fun p51 => ldi .i64 h50 p51 fun n52 => bsl 1 1 [(.rv (.int .i64 0))] [(some (0, 1), (.rv (.int .i64 n52)))] h50 fun v53 h54 => apn 1 8 h54 x8 v53 fun v55 h56 => r13_body_p518451 k N1012 M1012 N129612 M129612 x3 x7 v55 (x11) x12 (x13) (h56)) (r13_body_p518451 k N1012 M1012 N129612 M129612 x3 x7 x8 (x11) x12 (x13) (h))) (r13_body_p4051 k N1012 M1012 x3 x7 x8 (x11) (h)) := nrfl (by kernel_rfl)
theorem r13_body_p127_eq (k : Nat) (x7 : AV) (h : Hp) : r13_body_p127 k x7 h = r13_body_l4084 k k h.length x7 (.rv .nils) (0) (h) := nrfl (by kernel_rfl)
theorem r13_body_p518451_eq (k : Nat) (N1012 M1012 : Nat) (N129612 M129612 : Nat) (x3 : AV) (x7 : AV) (x8 : AV) (x11 : Int) (x12 : AV) (x13 : Int) (h : Hp) : r13_body_p518451 k N1012 M1012 N129612 M129612 x3 x7 x8 x11 x12 x13 h = r13_body_l129612 k N1012 M1012 N129612 M129612 x3 x7 x8 (x11) x12 ((wri .i64 (x13 + 1))) (h) := nrfl (by kernel_rfl)
theorem r13_body_p4051_eq (k : Nat) (N1012 M1012 : Nat) (x3 : AV) (x7 : AV) (x8 : AV) (x11 : Int) (h : Hp) : r13_body_p4051 k N1012 M1012 x3 x7 x8 x11 h = r13_body_l1012 k N1012 M1012 x3 x7 x8 ((wri .i64 (x11 + 1))) (h) := nrfl (by kernel_rfl)
theorem r13_body_l4084_eq (k : Nat) (N4084 M4084 : Nat) (x7 : AV) (x14 : AV) (x15 : Int) (h : Hp) : r13_body_l4084 k (N4084 + 1) M4084 x7 x14 x15 h = lna x7 fun n57 => bsp ((decide (x15 < n57))) (ixa 1 x7 x15 fun p58 => ldb h p58 fun b59 => bsp (b59) (bsl 1 1 [(.rv (.int .i64 0))] [(some (0, 1), (.rv (.int .i64 x15)))] h fun v60 h61 => apn 1 8 h61 x14 v60 fun v62 h63 => r13_body_p16339 k N4084 M4084 x7 v62 (x15) (h63)) (r13_body_p16339 k N4084 M4084 x7 x14 (x15) (h))) (r13_body_p511 k x14 (h)) := nrfl (by kernel_rfl)
theorem r13_body_p16339_eq (k : Nat) (N4084 M4084 : Nat) (x7 : AV) (x14 : AV) (x15 : Int) (h : Hp) : r13_body_p16339 k N4084 M4084 x7 x14 x15 h = r13_body_l4084 k N4084 M4084 x7 x14 ((wri .i64 (x15 + 1))) (h) := nrfl (by kernel_rfl)
theorem r13_body_p511_eq (k : Nat) (x14 : AV) (h : Hp) : r13_body_p511 k x14 h = some (.ret x14, h) := nrfl (by kernel_rfl)
theorem r13_body_eq (k : Nat) (x0 : AV) (x1 : AV) (x2 : Int) (h : Hp) : fnA Try.prog r13_body_G r13_body_A r13_body_R k Try.f55 [x0, x1, (.rv (.int .i64 x2))] h = nwc 1 (vcells x0) h fun p1 h2 => pad p1 3 fun p3 => ldv h2 p3 fun v4 => lna v4 fun n5 => mks 1 1 [(.rv (.bool false))] h2 n5 fun v6 h7 => ixa 1 v6 x2 fun p8 => stv 1 h7 p8 (.rv (.bool true)) fun h9 => r13_body_l500 k k h9.length x1 (x2) p1 v6 (.rv .nils) (0) (h9) := nrfl (by kernel_rfl)
theorem r13_body_good : Good Try.prog r13_body_G := by
  intro f c hc
  unfold r13_body_G at hc
  split at hc
  · cases hc; exact good_r13_Dominates
  · cases hc
noncomputable def F_r13_body : List RV → Option Res := fun rs => pureR (fnA Try.prog r13_body_G r13_body_A r13_body_R big Try.f55 (rs.map .rv) [])
theorem good_r13_body : GoodC Try.prog 55 (.pure F_r13_body) := goodP mixed r13_body_good (by kernel_rfl : Try.prog.funcs[55]? = some Try.f55) rfl rfl (fun rs r h => ⟨big, h⟩)

/-! gantry/gantryref13.Loops -/
abbrev id_r13_Loops : FuncId := 24
noncomputable def r13_Loops_G : FuncId → Option Callee := fun f => match f with
  | 22 => some (.pure F_r13_Doms)
  | 28 => some (.pure F_r0_In)
  | 29 => some (.pure F_r13_Dominates)
  | 55 => some (.pure F_r13_body)
  | _ => none
def r13_Loops_A : Ann := [(31, [4]), (63, [4]), (127, [4]), (244, [1, 3, 4, 5]), (500, [4, 8]), (979, [1, 3, 4, 5]), (1012, [4, 11]), (2003, [4, 8]), (4051, [4, 11]), (7827, [1, 3, 4, 5, 6]), (32036, [4, 8, 9]), (32403, [4, 11, 12]), (62612, [1, 3, 4, 5, 6, 7]), (128147, [4, 8, 9]), (250451, [1, 3, 4, 5, 6, 7]), (259220, [4, 11, 12, 13]), (1025171, [4, 8, 9, 110]), (1036881, [4, 11, 12, 13, 130])]
def r13_Loops_R : List Nat := []
noncomputable def r13_Loops_c (k pos : Nat) : St → Cont (ARes × Hp) → Option (ARes × Hp) := acode Try.prog r13_Loops_G r13_Loops_A r13_Loops_R k (cdAt (pathOf pos) (bodyOf Try.f24)) pos
def r13_Loops_T244 (x1 : AV) (x3 : AV) (x4 : AV) (x5 : Int) : List AV := an 1 (x1 :: an 1 (x3 :: x4 :: (.rv (.int .i64 x5)) :: an 138 ([])))
def r13_Loops_T62612 (x1 : AV) (x3 : AV) (x4 : AV) (x5 : Int) (x6 : Bool) (x7 : Int) : List AV := an 1 (x1 :: an 1 (x3 :: x4 :: (.rv (.int .i64 x5)) :: (.rv (.bool x6)) :: (.rv (.int .i64 x7)) :: an 136 ([])))
def r13_Loops_T31 (x4 : AV) : List AV := an 4 (x4 :: an 139 ([]))
def r13_Loops_T250451 (x1 : AV) (x3 : AV) (x4 : AV) (x5 : Int) (x6 : Bool) (x7 : Int) : List AV := an 1 (x1 :: an 1 (x3 :: x4 :: (.rv (.int .i64 x5)) :: (.rv (.bool x6)) :: (.rv (.int .i64 x7)) :: an 136 ([])))
def r13_Loops_T7827 (x1 : AV) (x3 : AV) (x4 : AV) (x5 : Int) (x6 : Bool) : List AV := an 1 (x1 :: an 1 (x3 :: x4 :: (.rv (.int .i64 x5)) :: (.rv (.bool x6)) :: an 137 ([])))
def r13_Loops_T500 (x4 : AV) (x8 : Int) : List AV := an 4 (x4 :: an 3 ((.rv (.int .i64 x8)) :: an 135 ([])))
def r13_Loops_T979 (x1 : AV) (x3 : AV) (x4 : AV) (x5 : Int) : List AV := an 1 (x1 :: an 1 (x3 :: x4 :: (.rv (.int .i64 x5)) :: an 138 ([])))
def r13_Loops_T32036 (x4 : AV) (x8 : Int) (x9 : Int) : List AV := an 4 (x4 :: an 3 ((.rv (.int .i64 x8)) :: (.rv (.int .i64 x9)) :: an 134 ([])))
def r13_Loops_T63 (x4 : AV) : List AV := an 4 (x4 :: an 139 ([]))
def r13_Loops_T1025171 (x4 : AV) (x8 : Int) (x9 : Int) (x110 : Bool) : List AV := an 4 (x4 :: an 3 ((.rv (.int .i64 x8)) :: (.rv (.int .i64 x9)) :: an 100 ((.rv (.bool x110)) :: an 33 ([]))))
def r13_Loops_T2003 (x4 : AV) (x8 : Int) : List AV := an 4 (x4 :: an 3 ((.rv (.int .i64 x8)) :: an 135 ([])))
def r13_Loops_T1012 (x4 : AV) (x11 : Int) : List AV := an 4 (x4 :: an 6 ((.rv (.int .i64 x11)) :: an 132 ([])))
def r13_Loops_T128147 (x4 : AV) (x8 : Int) (x9 : Int) : List AV := an 4 (x4 :: an 3 ((.rv (.int .i64 x8)) :: (.rv (.int .i64 x9)) :: an 134 ([])))
def r13_Loops_T259220 (x4 : AV) (x11 : Int) (x12 : Int) (x13 : Int) : List AV := an 4 (x4 :: an 6 ((.rv (.int .i64 x11)) :: (.rv (.int .i64 x12)) :: (.rv (.int .i64 x13)) :: an 130 ([])))
def r13_Loops_T127 (x4 : AV) : List AV := an 4 (x4 :: an 139 ([]))
def r13_Loops_T1036881 (x4 : AV) (x11 : Int) (x12 : Int) (x13 : Int) (x130 : Bool) : List AV := an 4 (x4 :: an 6 ((.rv (.int .i64 x11)) :: (.rv (.int .i64 x12)) :: (.rv (.int .i64 x13)) :: an 116 ((.rv (.bool x130)) :: an 13 ([]))))
def r13_Loops_T32403 (x4 : AV) (x11 : Int) (x12 : Int) : List AV := an 4 (x4 :: an 6 ((.rv (.int .i64 x11)) :: (.rv (.int .i64 x12)) :: an 131 ([])))
def r13_Loops_T4051 (x4 : AV) (x11 : Int) : List AV := an 4 (x4 :: an 6 ((.rv (.int .i64 x11)) :: an 132 ([])))
noncomputable def r13_Loops_K0 (k : Nat) : Cont (ARes × Hp) := seqK (r13_Loops_c k 31) true (clrA r13_Loops_A 31) (finA Try.prog Try.f24)
noncomputable def r13_Loops_K1 (k : Nat) : Cont (ARes × Hp) := blkK 0 (r13_Loops_K0 k)
noncomputable def r13_Loops_K2 (k : Nat) (N244 M244 : Nat) : Cont (ARes × Hp) := itK (aloop (r13_Loops_c k 244) (clrA r13_Loops_A 244) (trimOf r13_Loops_R 244) M244 N244) (clrA r13_Loops_A 244) (trimOf r13_Loops_R 244) M244 (r13_Loops_K1 k)
noncomputable def r13_Loops_K3 (k : Nat) (N244 M244 : Nat) : Cont (ARes × Hp) := seqK (r13_Loops_c k 979) true (clrA r13_Loops_A 979) (r13_Loops_K2 k N244 M244)
noncomputable def r13_Loops_K4 (k : Nat) (N244 M244 : Nat) : Cont (ARes × Hp) := blkK 1 (r13_Loops_K3 k N244 M244)
noncomputable def r13_Loops_K5 (k : Nat) (N244 M244 : Nat) : Cont (ARes × Hp) := seqK (r13_Loops_c k 7827) true (clrA r13_Loops_A 7827) (r13_Loops_K4 k N244 M244)
noncomputable def r13_Loops_K6 (k : Nat) (N244 M244 : Nat) : Cont (ARes × Hp) := blkK 2 (r13_Loops_K5 k N244 M244)
noncomputable def r13_Loops_K7 (k : Nat) (N244 M244 : Nat) (N62612 M62612 : Nat) : Cont (ARes × Hp) := itK (aloop (r13_Loops_c k 62612) (clrA r13_Loops_A 62612) (trimOf r13_Loops_R 62612) M62612 N62612) (clrA r13_Loops_A 62612) (trimOf r13_Loops_R 62612) M62612 (r13_Loops_K6 k N244 M244)
noncomputable def r13_Loops_K8 (k : Nat) : Cont (ARes × Hp) := seqK (r13_Loops_c k 63) true (clrA r13_Loops_A 63) (finA Try.prog Try.f24)
noncomputable def r13_Loops_K9 (k : Nat) : Cont (ARes × Hp) := blkK 4 (r13_Loops_K8 k)
noncomputable def r13_Loops_K10 (k : Nat) (N500 M500 : Nat) : Cont (ARes × Hp) := itK (aloop (r13_Loops_c k 500) (clrA r13_Loops_A 500) (trimOf r13_Loops_R 500) M500 N500) (clrA r13_Loops_A 500) (trimOf r13_Loops_R 500) M500 (r13_Loops_K9 k)
noncomputable def r13_Loops_K11 (k : Nat) (N500 M500 : Nat) : Cont (ARes × Hp) := seqK (r13_Loops_c k 2003) true (clrA r13_Loops_A 2003) (r13_Loops_K10 k N500 M500)
noncomputable def r13_Loops_K12 (k : Nat) (N500 M500 : Nat) : Cont (ARes × Hp) := blkK 5 (r13_Loops_K11 k N500 M500)
noncomputable def r13_Loops_K13 (k : Nat) (N500 M500 : Nat) : Cont (ARes × Hp) := blkK 6 (r13_Loops_K12 k N500 M500)
noncomputable def r13_Loops_K14 (k : Nat) (N500 M500 : Nat) (N32036 M32036 : Nat) : Cont (ARes × Hp) := itK (aloop (r13_Loops_c k 32036) (clrA r13_Loops_A 32036) (trimOf r13_Loops_R 32036) M32036 N32036) (clrA r13_Loops_A 32036) (trimOf r13_Loops_R 32036) M32036 (r13_Loops_K13 k N500 M500)
noncomputable def r13_Loops_K15 (k : Nat) (N500 M500 : Nat) (N32036 M32036 : Nat) : Cont (ARes × Hp) := seqK (r13_Loops_c k 128147) true (clrA r13_Loops_A 128147) (r13_Loops_K14 k N500 M500 N32036 M32036)
noncomputable def r13_Loops_K16 (k : Nat) (N500 M500 : Nat) (N32036 M32036 : Nat) : Cont (ARes × Hp) := blkK 7 (r13_Loops_K15 k N500 M500 N32036 M32036)
noncomputable def r13_Loops_K17 (k : Nat) : Cont (ARes × Hp) := seqK (r13_Loops_c k 127) true (clrA r13_Loops_A 127) (finA Try.prog Try.f24)
noncomputable def r13_Loops_K18 (k : Nat) : Cont (ARes × Hp) := blkK 8 (r13_Loops_K17 k)
noncomputable def r13_Loops_K19 (k : Nat) (N1012 M1012 : Nat) : Cont (ARes × Hp) := itK (aloop (r13_Loops_c k 1012) (clrA r13_Loops_A 1012) (trimOf r13_Loops_R 1012) M1012 N1012) (clrA r13_Loops_A 1012) (trimOf r13_Loops_R 1012) M1012 (r13_Loops_K18 k)
noncomputable def r13_Loops_K20 (k : Nat) (N1012 M1012 : Nat) : Cont (ARes × Hp) := seqK (r13_Loops_c k 4051) true (clrA r13_Loops_A 4051) (r13_Loops_K19 k N1012 M1012)
noncomputable def r13_Loops_K21 (k : Nat) (N1012 M1012 : Nat) : Cont (ARes × Hp) := blkK 9 (r13_Loops_K20 k N1012 M1012)
noncomputable def r13_Loops_K22 (k : Nat) (N1012 M1012 : Nat) : Cont (ARes × Hp) := seqK (r13_Loops_c k 32403) true (clrA r13_Loops_A 32403) (r13_Loops_K21 k N1012 M1012)
noncomputable def r13_Loops_K23 (k : Nat) (N1012 M1012 : Nat) : Cont (ARes × Hp) := blkK 10 (r13_Loops_K22 k N1012 M1012)
noncomputable def r13_Loops_K24 (k : Nat) (N1012 M1012 : Nat) (N259220 M259220 : Nat) : Cont (ARes × Hp) := itK (aloop (r13_Loops_c k 259220) (clrA r13_Loops_A 259220) (trimOf r13_Loops_R 259220) M259220 N259220) (clrA r13_Loops_A 259220) (trimOf r13_Loops_R 259220) M259220 (r13_Loops_K23 k N1012 M1012)
noncomputable def r13_Loops_K25 (k : Nat) (N1012 M1012 : Nat) (N259220 M259220 : Nat) : Cont (ARes × Hp) := seqK (r13_Loops_c k 518441) false (clrA r13_Loops_A 518441) (r13_Loops_K24 k N1012 M1012 N259220 M259220)
noncomputable def r13_Loops_l244 (k : Nat) (N244 M244 : Nat) (x1 : AV) (x3 : AV) (x4 : AV) (x5 : Int) (h : Hp) : Option (ARes × Hp) := aloop (r13_Loops_c k 244) (clrA r13_Loops_A 244) (trimOf r13_Loops_R 244) M244 N244 ⟨r13_Loops_T244 x1 x3 x4 x5, h⟩ (r13_Loops_K1 k)
noncomputable def r13_Loops_l62612 (k : Nat) (N244 M244 : Nat) (N62612 M62612 : Nat) (x1 : AV) (x3 : AV) (x4 : AV) (x5 : Int) (x6 : Bool) (x7 : Int) (h : Hp) : Option (ARes × Hp) := aloop (r13_Loops_c k 62612) (clrA r13_Loops_A 62612) (trimOf r13_Loops_R 62612) M62612 N62612 ⟨r13_Loops_T62612 x1 x3 x4 x5 x6 x7, h⟩ (r13_Loops_K6 k N244 M244)
noncomputable def r13_Loops_p31 (k : Nat) (x4 : AV) (h : Hp) : Option (ARes × Hp) := pnt (r13_Loops_c k 31) ⟨r13_Loops_T31 x4, h⟩ (finA Try.prog Try.f24)
noncomputable def r13_Loops_p250451 (k : Nat) (N244 M244 : Nat) (N62612 M62612 : Nat) (x1 : AV) (x3 : AV) (x4 : AV) (x5 : Int) (x6 : Bool) (x7 : Int) (h : Hp) : Option (ARes × Hp) := pnt (r13_Loops_c k 250451) ⟨r13_Loops_T250451 x1 x3 x4 x5 x6 x7, h⟩ (r13_Loops_K7 k N244 M244 N62612 M62612)
noncomputable def r13_Loops_p7827 (k : Nat) (N244 M244 : Nat) (x1 : AV) (x3 : AV) (x4 : AV) (x5 : Int) (x6 : Bool) (h : Hp) : Option (ARes × Hp) := pnt (r13_Loops_c k 7827) ⟨r13_Loops_T7827 x1 x3 x4 x5 x6, h⟩ (r13_Loops_K4 k N244 M244)
noncomputable def r13_Loops_l500 (k : Nat) (N500 M500 : Nat) (x4 : AV) (x8 : Int) (h : Hp) : Option (ARes × Hp) := aloop (r13_Loops_c k 500) (clrA r13_Loops_A 500) (trimOf r13_Loops_R 500) M500 N500 ⟨r13_Loops_T500 x4 x8, h⟩ (r13_Loops_K9 k)
noncomputable def r13_Loops_p979 (k : Nat) (N244 M244 : Nat) (x1 : AV) (x3 : AV) (x4 : AV) (x5 : Int) (h : Hp) : Option (ARes × Hp) := pnt (r13_Loops_c k 979) ⟨r13_Loops_T979 x1 x3 x4 x5, h⟩ (r13_Loops_K2 k N244 M244)
noncomputable def r13_Loops_l32036 (k : Nat) (N500 M500 : Nat) (N32036 M32036 : Nat) (x4 : AV) (x8 : Int) (x9 : Int) (h : Hp) : Option (ARes × Hp) := aloop (r13_Loops_c k 32036) (clrA r13_Loops_A 32036) (trimOf r13_Loops_R 32036) M32036 N32036 ⟨r13_Loops_T32036 x4 x8 x9, h⟩ (r13_Loops_K13 k N500 M500)
noncomputable def r13_Loops_p63 (k : Nat) (x4 : AV) (h : Hp) : Option (ARes × Hp) := pnt (r13_Loops_c k 63) ⟨r13_Loops_T63 x4, h⟩ (finA Try.prog Try.f24)
noncomputable def r13_Loops_p1025171 (k : Nat) (N500 M500 : Nat) (N32036 M32036 : Nat) (x4 : AV) (x8 : Int) (x9 : Int) (x110 : Bool) (h : Hp) : Option (ARes × Hp) := pnt (r13_Loops_c k 1025171) ⟨r13_Loops_T1025171 x4 x8 x9 x110, h⟩ (r13_Loops_K16 k N500 M500 N32036 M32036)
noncomputable def r13_Loops_p2003 (k : Nat) (N500 M500 : Nat) (x4 : AV) (x8 : Int) (h : Hp) : Option (ARes × Hp) := pnt (r13_Loops_c k 2003) ⟨r13_Loops_T2003 x4 x8, h⟩ (r13_Loops_K10 k N500 M500)
noncomputable def r13_Loops_l1012 (k : Nat) (N1012 M1012 : Nat) (x4 : AV) (x11 : Int) (h : Hp) : Option (ARes × Hp) := aloop (r13_Loops_c k 1012) (clrA r13_Loops_A 1012) (trimOf r13_Loops_R 1012) M1012 N1012 ⟨r13_Loops_T1012 x4 x11, h⟩ (r13_Loops_K18 k)
noncomputable def r13_Loops_p128147 (k : Nat) (N500 M500 : Nat) (N32036 M32036 : Nat) (x4 : AV) (x8 : Int) (x9 : Int) (h : Hp) : Option (ARes × Hp) := pnt (r13_Loops_c k 128147) ⟨r13_Loops_T128147 x4 x8 x9, h⟩ (r13_Loops_K14 k N500 M500 N32036 M32036)
noncomputable def r13_Loops_l259220 (k : Nat) (N1012 M1012 : Nat) (N259220 M259220 : Nat) (x4 : AV) (x11 : Int) (x12 : Int) (x13 : Int) (h : Hp) : Option (ARes × Hp) := aloop (r13_Loops_c k 259220) (clrA r13_Loops_A 259220) (trimOf r13_Loops_R 259220) M259220 N259220 ⟨r13_Loops_T259220 x4 x11 x12 x13, h⟩ (r13_Loops_K23 k N1012 M1012)
noncomputable def r13_Loops_p127 (k : Nat) (x4 : AV) (h : Hp) : Option (ARes × Hp) := pnt (r13_Loops_c k 127) ⟨r13_Loops_T127 x4, h⟩ (finA Try.prog Try.f24)
noncomputable def r13_Loops_p1036881 (k : Nat) (N1012 M1012 : Nat) (N259220 M259220 : Nat) (x4 : AV) (x11 : Int) (x12 : Int) (x13 : Int) (x130 : Bool) (h : Hp) : Option (ARes × Hp) := pnt (r13_Loops_c k 1036881) ⟨r13_Loops_T1036881 x4 x11 x12 x13 x130, h⟩ (r13_Loops_K25 k N1012 M1012 N259220 M259220)
noncomputable def r13_Loops_p32403 (k : Nat) (N1012 M1012 : Nat) (x4 : AV) (x11 : Int) (x12 : Int) (h : Hp) : Option (ARes × Hp) := pnt (r13_Loops_c k 32403) ⟨r13_Loops_T32403 x4 x11 x12, h⟩ (r13_Loops_K21 k N1012 M1012)
noncomputable def r13_Loops_p4051 (k : Nat) (N1012 M1012 : Nat) (x4 : AV) (x11 : Int) (h : Hp) : Option (ARes × Hp) := pnt (r13_Loops_c k 4051) ⟨r13_Loops_T4051 x4 x11, h⟩ (r13_Loops_K19 k N1012 M1012)
theorem r13_Loops_l244_eq (k : Nat) (N244 M244 : Nat) (x1 : AV) (x3 : AV) (x4 : AV) (x5 : Int) (h : Hp) : r13_Loops_l244 k (N244 + 1) M244 x1 x3 x4 x5 h = pad x1 3 fun p6 => ldv h p6 fun v7 => lna v7 fun n8 => bsp ((decide (x5 < n8))) (r13_Loops_l62612 k N244 M244 k h.length x1 x3 x4 (x5) (false) (0) (h)) (r13_Loops_p31 k x4 (h)) := nrfl (by kernel_rfl)
theorem r13_Loops_l62612_eq (k : Nat) (N244 M244 : Nat) (N62612 M62612 : Nat) (x1 : AV) (x3 : AV) (x4 : AV) (x5 : Int) (x6 : Bool) (x7 : Int) (h : Hp) : r13_Loops_l62612 k N244 M244 (N62612 + 1) M62612 x1 x3 x4 x5 x6 x7 h = pad x1 3 fun p9 => ldv h p9 fun v10 => ixa 6 v10 x5 fun p11 => pad p11 3 fun p12 => ldv h p12 fun v13 => lna v13 fun n14 => bsp ((decide (x7 < n14))) (bsp (x6) (r13_Loops_p250451 k N244 M244 N62612 M62612 x1 x3 x4 (x5) (true) (x7) (h)) (pad x1 3 fun p15 => ldv h p15 fun v16 => ixa 6 v16 x5 fun p17 => pad p17 3 fun p18 => ldv h p18 fun v19 => ixa 1 v19 x7 fun p20 => ldi .i64 h p20 fun n21 => callP F_r13_Dominates h [x3, (.rv (.int .i64 x5)), (.rv (.int .i64 n21))] (fun r22 => asBool r22 fun b24 => r13_Loops_p250451 k N244 M244 N62612 M62612 x1 x3 x4 (x5) (b24) (x7) (h)) (fun q23 => some (.pan q23, h)))) (r13_Loops_p7827 k N244 M244 x1 x3 x4 (x5) (x6) (h)) := nrfl (by kernel_rfl)
theorem r13_Loops_p31_eq (k : Nat) (x4 : AV) (h : Hp) : r13_Loops_p31 k x4 h = r13_Loops_l500 k k h.length x4 (0) (h) := nrfl (by kernel_rfl)
theorem r13_Loops_p250451_eq (k : Nat) (N244 M244 : Nat) (N62612 M62612 : Nat) (x1 : AV) (x3 : AV) (x4 : AV) (x5 : Int) (x6 : Bool) (x7 : Int) (h : Hp) : r13_Loops_p250451 k N244 M244 N62612 M62612 x1 x3 x4 x5 x6 x7 h = r13_Loops_l62612 k N244 M244 N62612 M62612 x1 x3 x4 (x5) (x6) ((wri .i64 (x7 + 1))) (h) := nrfl (by kernel_rfl)
theorem r13_Loops_p7827_eq (k : Nat) (N244 M244 : Nat) (x1 : AV) (x3 : AV) (x4 : AV) (x5 : Int) (x6 : Bool) (h : Hp) : r13_Loops_p7827 k N244 M244 x1 x3 x4 x5 x6 h = bsp (x6) (ldg 4 h x1 fun v25 => callP F_r13_body h [v25, x3, (.rv (.int .i64 x5))] (fun r26 => bld [(.rv (.int .i64 0)), (.rv (.int .i64 0)), (.rv (.int .i64 0)), (.rv .nils)] [(some (0, 1), (.rv (.int .i64 x5))), (some (1, 1), (.rv (.int .i64 (-1)))), (some (3, 1), r26)] fun v28 => bsl 4 1 [(.rv (.int .i64 0)), (.rv (.int .i64 0)), (.rv (.int .i64 0)), (.rv .nils)] [(some (0, 4), v28)] h fun v29 h30 => apn 4 48 h30 x4 v29 fun v31 h32 => r13_Loops_p979 k N244 M244 x1 x3 v31 (x5) (h32)) (fun q27 => some (.pan q27, h))) (r13_Loops_p979 k N244 M244 x1 x3 x4 (x5) (h)) := nrfl (by kernel_rfl)
theorem r13_Loops_l500_eq (k : Nat) (N500 M500 : Nat) (x4 : AV) (x8 : Int) (h : Hp) : r13_Loops_l500 k (N500 + 1) M500 x4 x8 h = lna x4 fun n33 => bsp ((decide (x8 < n33))) (r13_Loops_l32036 k N500 M500 k h.length x4 (x8) (0) (h)) (r13_Loops_p63 k x4 (h)) := nrfl (by kernel_rfl)
theorem r13_Loops_p979_eq (k : Nat) (N244 M244 : Nat) (x1 : AV) (x3 : AV) (x4 : AV) (x5 : Int) (h : Hp) : r13_Loops_p979 k N244 M244 x1 x3 x4 x5 h = r13_Loops_l244 k N244 M244 x1 x3 x4 ((wri .i64 (x5 + 1))) (h) := nrfl (by kernel_rfl)
theorem r13_Loops_l32036_eq (k : Nat) (N500 M500 : Nat) (N32036 M32036 : Nat) (x4 : AV) (x8 : Int) (x9 : Int) (h : Hp) : r13_Loops_l32036 k N500 M500 (N32036 + 1) M32036 x4 x8 x9 h = lna x4 fun n34 => bsp ((decide (x9 < n34))) (ixa 4 x4 x8 fun p35 => pad p35 1 fun p36 => ldi .i64 h p36 fun n37 => bsp ((x9 != x8)) (ixa 4 x4 x9 fun p38 => pad p38 3 fun p39 => ldv h p39 fun v40 => ixa 4 x4 x8 fun p41 => pad p41 0 fun p42 => ldi .i64 h p42 fun n43 => callP F_r0_In h [v40, (.rv (.int .i64 n43))] (fun r44 => asBool r44 fun b46 => bsp (b46) (bsp ((decide (n37 < 0))) (r13_Loops_p1025171 k N500 M500 N32036 M32036 x4 (x8) (x9) (true) (h)) (ixa 4 x4 x9 fun p47 => pad p47 3 fun p48 => ldv h p48 fun v49 => lna v49 fun n50 => ixa 4 x4 n37 fun p51 => pad p51 3 fun p52 => ldv h p52 fun v53 => lna v53 fun n54 => r13_Loops_p1025171 k N500 M500 N32036 M32036 x4 (x8) (x9) ((decide (n50 < n54))) (h))) (r13_Loops_p1025171 k N500 M500 N32036 M32036 x4 (x8) (x9) (false) (h))) (fun q45 => none)) (r13_Loops_p1025171 k N500 M500 N32036 M32036 x4 (x8) (x9) (false) (h))) (r13_Loops_p2003 k N500 M500 x4 (x8) (h)) := nrfl (by kernel_rfl)
theorem r13_Loops_p63_eq (k : Nat) (x4 : AV) (h : Hp) : r13_Loops_p63 k x4 h = r13_Loops_l1012 k k h.length x4 (0) (h) := nrfl (by kernel_rfl)
theorem r13_Loops_p1025171_eq (k : Nat) (N500 M500 : Nat) (N32036 M32036 : Nat) (x4 : AV) (x8 : Int) (x9 : Int) (x110 : Bool) (h : Hp) : r13_Loops_p1025171 k N500 M500 N32036 M32036 x4 x8 x9 x110 h = bsp (x110) (ixa 4 x4 x8 fun p55 => pad p55 1 fun p56 => stv 1 h p56 (.rv (.int .i64 x9)) fun h57 => r13_Loops_p128147 k N500 M500 N32036 M32036 x4 (x8) (x9) (h57)) (r13_Loops_p128147 k N500 M500 N32036 M32036 x4 (x8) (x9) (h)) := nrfl (by kernel_rfl)
theorem r13_Loops_p2003_eq (k : Nat) (N500 M500 : Nat) (x4 : AV) (x8 : Int) (h : Hp) : r13_Loops_p2003 k N500 M500 x4 x8 h = r13_Loops_l500 k N500 M500 x4 ((wri .i64 (x8 + 1))) (h) := nrfl (by kernel_rfl)
theorem r13_Loops_l1012_eq (k : Nat) (N1012 M1012 : Nat) (x4 : AV) (x11 : Int) (h : Hp) : r13_Loops_l1012 k (N1012 + 1) M1012 x4 x11 h = lna x4 fun n58 => bsp ((decide (x11 < n58))) (r13_Loops_l259220 k N1012 M1012 k h.length x4 (x11) (0) (x11) (h)) (r13_Loops_p127 k x4 (h)) := nrfl (by kernel_rfl)
theorem r13_Loops_p128147_eq (k : Nat) (N500 M500 : Nat) (N32036 M32036 : Nat) (x4 : AV) (x8 : Int) (x9 : Int) (h : Hp) : r13_Loops_p128147 k N500 M500 N32036 M32036 x4 x8 x9 h = r13_Loops_l32036 k N500 M500 N32036 M32036 x4 (x8) ((wri .i64 (x9 + 1))) (h) := nrfl (by kernel_rfl)
theorem r13_Loops_l259220_eq (k : Nat) (N1012 M1012 : Nat) (N259220 M259220 : Nat) (x4 : AV) (x11 : Int) (x12 : Int) (x13 : Int) (h : Hp) : r13_Loops_l259220 k N1012 M1012 (N259220 + 1) M259220 x4 x11 x12 x13 h = bsp ((decide (x13 ≥ 0))) (lna x4 fun n59 => r13_Loops_p1036881 k N1012 M1012 N259220 M259220 x4 (x11) (x12) (x13) ((decide (x12 ≤ n59))) (h)) (r13_Loops_p1036881 k N1012 M1012 N259220 M259220 x4 (x11) (x12) (x13) (false) (h)) := nrfl (by kernel_rfl)
theorem r13_Loops_p127_eq (k : Nat) (x4 : AV) (h : Hp) : r13_Loops_p127 k x4 h = some (.ret x4, h) := nrfl (by kernel_rfl)
theorem r13_Loops_p1036881_eq (k : Nat) (N1012 M1012 : Nat) (N259220 M259220 : Nat) (x4 : AV) (x11 : Int) (x12 : Int) (x13 : Int) (x130 : Bool) (h : Hp) : r13_Loops_p1036881 k N1012 M1012 N259220 M259220 x4 x11 x12 x13 x130 h = bsp (x130) (ixa 4 x4 x13 fun p60 => pad p60 1 fun p61 => ldi .i64 h p61 fun n62 => r13_Loops_l259220 k N1012 M1012 N259220 M259220 x4 (x11) ((wri .i64 (x12 + 1))) (n62) (h)) (r13_Loops_p32403 k N1012 M1012 x4 (x11) (x12) (h)) := nrfl (by kernel_rfl)
theorem r13_Loops_p32403_eq (k : Nat) (N1012 M1012 : Nat) (x4 : AV) (x11 : Int) (x12 : Int) (h : Hp) : r13_Loops_p32403 k N1012 M1012 x4 x11 x12 h = ixa 4 x4 x11 fun p63 => pad p63 2 fun p64 => stv 1 h p64 (.rv (.int .i64 x12)) fun h65 => r13_Loops_p4051 k N1012 M1012 x4 (x11) (h65) := nrfl (by kernel_rfl)
theorem r13_Loops_p4051_eq (k : Nat) (N1012 M1012 : Nat) (x4 : AV) (x11 : Int) (h : Hp) : r13_Loops_p4051 k N1012 M1012 x4 x11 h = r13_Loops_l1012 k N1012 M1012 x4 ((wri .i64 (x11 + 1))) (h) := nrfl (by kernel_rfl)
theorem r13_Loops_eq (k : Nat) (x0 : AV) (h : Hp) : fnA Try.prog r13_Loops_G r13_Loops_A r13_Loops_R k Try.f24 [x0] h = nwc 1 (vcells x0) h fun p1 h2 => ldg 4 h2 p1 fun v3 => callP F_r13_Doms h2 [v3] (fun r4 => r13_Loops_l244 k k h2.length p1 r4 (.rv .nils) (0) (h2)) (fun q5 => some (.pan q5, h2)) := nrfl (by kernel_rfl)
theorem r13_Loops_good : Good Try.prog r13_Loops_G := by
  intro f c hc
  unfold r13_Loops_G at hc
  split at hc
  · cases hc; exact good_r13_Doms
  · cases hc; exact good_r0_In
  · cases hc; exact good_r13_Dominates
  · cases hc; exact good_r13_body
  · cases hc
noncomputable def F_r13_Loops : List RV → Option Res := fun rs => pureR (fnA Try.prog r13_Loops_G r13_Loops_A r13_Loops_R big Try.f24 (rs.map .rv) [])
theorem good_r13_Loops : GoodC Try.prog 24 (.pure F_r13_Loops) := goodP mixed r13_Loops_good (by kernel_rfl : Try.prog.funcs[24]? = some Try.f24) rfl rfl (fun rs r h => ⟨big, h⟩)

/-! gantry/gantrylaw0.Numbers -/
abbrev id_w0_Numbers : FuncId := 25
noncomputable def w0_Numbers_G : FuncId → Option Callee := fun f => match f with
  | _ => none
def w0_Numbers_A : Ann := [(3, [0]), (20, [0, 2])]
def w0_Numbers_R : List Nat := []
noncomputable def w0_Numbers_c (k pos : Nat) : St → Cont (ARes × Hp) → Option (ARes × Hp) := acode Try.prog w0_Numbers_G w0_Numbers_A w0_Numbers_R k (cdAt (pathOf pos) (bodyOf Try.f25)) pos
def w0_Numbers_T20 (x0 : AV) (x2 : Int) : List AV := x0 :: an 1 ((.rv (.int .i64 x2)) :: an 12 ([]))
def w0_Numbers_T3 (x0 : AV) : List AV := x0 :: an 14 ([])
noncomputable def w0_Numbers_K0 (k : Nat) : Cont (ARes × Hp) := seqK (w0_Numbers_c k 3) true (clrA w0_Numbers_A 3) (finA Try.prog Try.f25)
noncomputable def w0_Numbers_K1 (k : Nat) : Cont (ARes × Hp) := blkK 0 (w0_Numbers_K0 k)
noncomputable def w0_Numbers_l20 (k : Nat) (N20 M20 : Nat) (x0 : AV) (x2 : Int) (h : Hp) : Option (ARes × Hp) := aloop (w0_Numbers_c k 20) (clrA w0_Numbers_A 20) (trimOf w0_Numbers_R 20) M20 N20 ⟨w0_Numbers_T20 x0 x2, h⟩ (w0_Numbers_K1 k)
noncomputable def w0_Numbers_p3 (k : Nat) (x0 : AV) (h : Hp) : Option (ARes × Hp) := pnt (w0_Numbers_c k 3) ⟨w0_Numbers_T3 x0, h⟩ (finA Try.prog Try.f25)
theorem w0_Numbers_l20_eq (k : Nat) (N20 M20 : Nat) (x0 : AV) (x2 : Int) (h : Hp) : w0_Numbers_l20 k (N20 + 1) M20 x0 x2 h = lna x0 fun n1 => bsp ((decide (x2 < n1))) (ixa 1 x0 x2 fun p2 => stv 1 h p2 (.rv (.int .i64 (-99))) fun h3 => w0_Numbers_l20 k N20 M20 x0 ((wri .i64 (x2 + 1))) (h3)) (w0_Numbers_p3 k x0 (h)) := nrfl (by kernel_rfl)
theorem w0_Numbers_p3_eq (k : Nat) (x0 : AV) (h : Hp) : w0_Numbers_p3 k x0 h = bsl 1 1 [(.rv (.int .i64 0))] [(some (0, 1), (.rv (.int .i64 5)))] h fun v4 h5 => apn 1 8 h5 x0 v4 fun v6 h7 => some (.ret undefA, h7) := nrfl (by kernel_rfl)
theorem w0_Numbers_eq (k : Nat) (x0 : AV) (h : Hp) : fnA Try.prog w0_Numbers_G w0_Numbers_A w0_Numbers_R k Try.f25 [x0] h = w0_Numbers_l20 k k h.length x0 (0) (h) := nrfl (by kernel_rfl)
theorem w0_Numbers_good : Good Try.prog w0_Numbers_G := fun f c hc => by cases hc
noncomputable def G_w0_Numbers : List AV → Hp → Option (ARes × Hp) := fun xs h => fnA Try.prog w0_Numbers_G w0_Numbers_A w0_Numbers_R big Try.f25 xs h
theorem good_w0_Numbers : GoodC Try.prog 25 (.gen G_w0_Numbers) := goodG mixed w0_Numbers_good (by kernel_rfl : Try.prog.funcs[25]? = some Try.f25) rfl rfl (fun xs h x e => ⟨big, e⟩)
end Go.Proofs.Ytknphnmhjmejaaa
