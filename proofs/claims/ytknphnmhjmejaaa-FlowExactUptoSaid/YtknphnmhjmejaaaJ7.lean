/- Joined texts: Ga. No conditions but those of each. -/
import Derived.Test.YtknphnmhjmejaaaJ6
/- The places and the unfolding equations of these functions (printed by gen.py of this repo): no conditions. -/
namespace Go.Proofs.Ytknphnmhjmejaaa
set_option linter.unusedVariables false
set_option maxRecDepth 100000

/-! gantry/gantrylaw12.Weight -/
abbrev id_w12_Weight : FuncId := 7
noncomputable def w12_Weight_G : FuncId → Option Callee := fun f => match f with
  | _ => none
def w12_Weight_A : Ann := [(15, [5]), (116, [1, 2, 5, 6]), (465, [1, 2, 5, 6, 28]), (467, [1, 2, 5, 6]), (7463, [1, 2, 5, 6, 7]), (59700, [1, 2, 5, 6, 7, 8]), (59708, [1, 2, 5, 6, 7, 9]), (238801, [1, 2, 5, 6, 7, 8, 54]), (238833, [1, 2, 5, 6, 7, 9, 76])]
def w12_Weight_R : List Nat := []
noncomputable def w12_Weight_c (k pos : Nat) : St → Cont (ARes × Hp) → Option (ARes × Hp) := acode Try.prog w12_Weight_G w12_Weight_A w12_Weight_R k (cdAt (pathOf pos) (bodyOf Try.f7)) pos
noncomputable def w12_Weight_K0 (k : Nat) : Cont (ARes × Hp) := seqK (w12_Weight_c k 15) true (clrA w12_Weight_A 15) (finA Try.prog Try.f7)
noncomputable def w12_Weight_K1 (k : Nat) : Cont (ARes × Hp) := blkK 0 (w12_Weight_K0 k)
noncomputable def w12_Weight_K2 (k : Nat) (N116 M116 : Nat) : Cont (ARes × Hp) := itK (aloop (w12_Weight_c k 116) (clrA w12_Weight_A 116) (trimOf w12_Weight_R 116) M116 N116) (clrA w12_Weight_A 116) (trimOf w12_Weight_R 116) M116 (w12_Weight_K1 k)
noncomputable def w12_Weight_K3 (k : Nat) (N116 M116 : Nat) : Cont (ARes × Hp) := seqK (w12_Weight_c k 233) false (clrA w12_Weight_A 233) (w12_Weight_K2 k N116 M116)
noncomputable def w12_Weight_K4 (k : Nat) (N116 M116 : Nat) : Cont (ARes × Hp) := seqK (w12_Weight_c k 467) true (clrA w12_Weight_A 467) (w12_Weight_K2 k N116 M116)
noncomputable def w12_Weight_K5 (k : Nat) (N116 M116 : Nat) : Cont (ARes × Hp) := blkK 1 (w12_Weight_K4 k N116 M116)
noncomputable def w12_Weight_K6 (k : Nat) (N116 M116 : Nat) : Cont (ARes × Hp) := seqK (w12_Weight_c k 7463) true (clrA w12_Weight_A 7463) (w12_Weight_K5 k N116 M116)
noncomputable def w12_Weight_K7 (k : Nat) (N116 M116 : Nat) : Cont (ARes × Hp) := blkK 2 (w12_Weight_K6 k N116 M116)
noncomputable def w12_Weight_K8 (k : Nat) (N116 M116 : Nat) (N59700 M59700 : Nat) : Cont (ARes × Hp) := itK (aloop (w12_Weight_c k 59700) (clrA w12_Weight_A 59700) (trimOf w12_Weight_R 59700) M59700 N59700) (clrA w12_Weight_A 59700) (trimOf w12_Weight_R 59700) M59700 (w12_Weight_K7 k N116 M116)
noncomputable def w12_Weight_K9 (k : Nat) (N116 M116 : Nat) (N59700 M59700 : Nat) : Cont (ARes × Hp) := seqK (w12_Weight_c k 119401) false (clrA w12_Weight_A 119401) (w12_Weight_K8 k N116 M116 N59700 M59700)
noncomputable def w12_Weight_K10 (k : Nat) (N116 M116 : Nat) : Cont (ARes × Hp) := blkK 4 (w12_Weight_K5 k N116 M116)
noncomputable def w12_Weight_K11 (k : Nat) (N116 M116 : Nat) (N59708 M59708 : Nat) : Cont (ARes × Hp) := itK (aloop (w12_Weight_c k 59708) (clrA w12_Weight_A 59708) (trimOf w12_Weight_R 59708) M59708 N59708) (clrA w12_Weight_A 59708) (trimOf w12_Weight_R 59708) M59708 (w12_Weight_K10 k N116 M116)
noncomputable def w12_Weight_K12 (k : Nat) (N116 M116 : Nat) (N59708 M59708 : Nat) : Cont (ARes × Hp) := seqK (w12_Weight_c k 119417) false (clrA w12_Weight_A 119417) (w12_Weight_K11 k N116 M116 N59708 M59708)
def w12_Weight_T116 (x1 : Int) (x2 : AV) (x5 : Int) (x6 : Int) : List AV := an 1 ((.rv (.int .i64 x1)) :: x2 :: an 2 ((.rv (.int .i64 x5)) :: (.rv (.int .i64 x6)) :: an 96 ([])))
noncomputable def w12_Weight_l116 (k : Nat) (N116 M116 : Nat) (x1 : Int) (x2 : AV) (x5 : Int) (x6 : Int) (h : Hp) : Option (ARes × Hp) := aloop (w12_Weight_c k 116) (clrA w12_Weight_A 116) (trimOf w12_Weight_R 116) M116 N116 ⟨w12_Weight_T116 x1 x2 x5 x6, h⟩ (w12_Weight_K1 k)
def w12_Weight_T465 (x1 : Int) (x2 : AV) (x5 : Int) (x6 : Int) (x28 : Bool) : List AV := an 1 ((.rv (.int .i64 x1)) :: x2 :: an 2 ((.rv (.int .i64 x5)) :: (.rv (.int .i64 x6)) :: an 21 ((.rv (.bool x28)) :: an 74 ([]))))
noncomputable def w12_Weight_p465 (k : Nat) (N116 M116 : Nat) (x1 : Int) (x2 : AV) (x5 : Int) (x6 : Int) (x28 : Bool) (h : Hp) : Option (ARes × Hp) := pnt (w12_Weight_c k 465) ⟨w12_Weight_T465 x1 x2 x5 x6 x28, h⟩ (w12_Weight_K3 k N116 M116)
def w12_Weight_T59700 (x1 : Int) (x2 : AV) (x5 : Int) (x6 : Int) (x7 : AV) (x8 : Int) : List AV := an 1 ((.rv (.int .i64 x1)) :: x2 :: an 2 ((.rv (.int .i64 x5)) :: (.rv (.int .i64 x6)) :: x7 :: (.rv (.int .i64 x8)) :: an 94 ([])))
noncomputable def w12_Weight_l59700 (k : Nat) (N116 M116 : Nat) (N59700 M59700 : Nat) (x1 : Int) (x2 : AV) (x5 : Int) (x6 : Int) (x7 : AV) (x8 : Int) (h : Hp) : Option (ARes × Hp) := aloop (w12_Weight_c k 59700) (clrA w12_Weight_A 59700) (trimOf w12_Weight_R 59700) M59700 N59700 ⟨w12_Weight_T59700 x1 x2 x5 x6 x7 x8, h⟩ (w12_Weight_K7 k N116 M116)
def w12_Weight_T15 (x5 : Int) : List AV := an 5 ((.rv (.int .i64 x5)) :: an 97 ([]))
noncomputable def w12_Weight_p15 (k : Nat) (x5 : Int) (h : Hp) : Option (ARes × Hp) := pnt (w12_Weight_c k 15) ⟨w12_Weight_T15 x5, h⟩ (finA Try.prog Try.f7)
def w12_Weight_T238801 (x1 : Int) (x2 : AV) (x5 : Int) (x6 : Int) (x7 : AV) (x8 : Int) (x54 : Bool) : List AV := an 1 ((.rv (.int .i64 x1)) :: x2 :: an 2 ((.rv (.int .i64 x5)) :: (.rv (.int .i64 x6)) :: x7 :: (.rv (.int .i64 x8)) :: an 45 ((.rv (.bool x54)) :: an 48 ([]))))
noncomputable def w12_Weight_p238801 (k : Nat) (N116 M116 : Nat) (N59700 M59700 : Nat) (x1 : Int) (x2 : AV) (x5 : Int) (x6 : Int) (x7 : AV) (x8 : Int) (x54 : Bool) (h : Hp) : Option (ARes × Hp) := pnt (w12_Weight_c k 238801) ⟨w12_Weight_T238801 x1 x2 x5 x6 x7 x8 x54, h⟩ (w12_Weight_K9 k N116 M116 N59700 M59700)
def w12_Weight_T7463 (x1 : Int) (x2 : AV) (x5 : Int) (x6 : Int) (x7 : AV) : List AV := an 1 ((.rv (.int .i64 x1)) :: x2 :: an 2 ((.rv (.int .i64 x5)) :: (.rv (.int .i64 x6)) :: x7 :: an 95 ([])))
noncomputable def w12_Weight_p7463 (k : Nat) (N116 M116 : Nat) (x1 : Int) (x2 : AV) (x5 : Int) (x6 : Int) (x7 : AV) (h : Hp) : Option (ARes × Hp) := pnt (w12_Weight_c k 7463) ⟨w12_Weight_T7463 x1 x2 x5 x6 x7, h⟩ (w12_Weight_K5 k N116 M116)
def w12_Weight_T59708 (x1 : Int) (x2 : AV) (x5 : Int) (x6 : Int) (x7 : AV) (x9 : Int) : List AV := an 1 ((.rv (.int .i64 x1)) :: x2 :: an 2 ((.rv (.int .i64 x5)) :: (.rv (.int .i64 x6)) :: x7 :: an 1 ((.rv (.int .i64 x9)) :: an 93 ([]))))
noncomputable def w12_Weight_l59708 (k : Nat) (N116 M116 : Nat) (N59708 M59708 : Nat) (x1 : Int) (x2 : AV) (x5 : Int) (x6 : Int) (x7 : AV) (x9 : Int) (h : Hp) : Option (ARes × Hp) := aloop (w12_Weight_c k 59708) (clrA w12_Weight_A 59708) (trimOf w12_Weight_R 59708) M59708 N59708 ⟨w12_Weight_T59708 x1 x2 x5 x6 x7 x9, h⟩ (w12_Weight_K10 k N116 M116)
def w12_Weight_T238833 (x1 : Int) (x2 : AV) (x5 : Int) (x6 : Int) (x7 : AV) (x9 : Int) (x76 : Bool) : List AV := an 1 ((.rv (.int .i64 x1)) :: x2 :: an 2 ((.rv (.int .i64 x5)) :: (.rv (.int .i64 x6)) :: x7 :: an 1 ((.rv (.int .i64 x9)) :: an 66 ((.rv (.bool x76)) :: an 26 ([])))))
noncomputable def w12_Weight_p238833 (k : Nat) (N116 M116 : Nat) (N59708 M59708 : Nat) (x1 : Int) (x2 : AV) (x5 : Int) (x6 : Int) (x7 : AV) (x9 : Int) (x76 : Bool) (h : Hp) : Option (ARes × Hp) := pnt (w12_Weight_c k 238833) ⟨w12_Weight_T238833 x1 x2 x5 x6 x7 x9 x76, h⟩ (w12_Weight_K12 k N116 M116 N59708 M59708)
def w12_Weight_T467 (x1 : Int) (x2 : AV) (x5 : Int) (x6 : Int) : List AV := an 1 ((.rv (.int .i64 x1)) :: x2 :: an 2 ((.rv (.int .i64 x5)) :: (.rv (.int .i64 x6)) :: an 96 ([])))
noncomputable def w12_Weight_p467 (k : Nat) (N116 M116 : Nat) (x1 : Int) (x2 : AV) (x5 : Int) (x6 : Int) (h : Hp) : Option (ARes × Hp) := pnt (w12_Weight_c k 467) ⟨w12_Weight_T467 x1 x2 x5 x6, h⟩ (w12_Weight_K2 k N116 M116)
theorem w12_Weight_l116_eq (k : Nat) (N116 M116 : Nat) (x1 : Int) (x2 : AV) (x5 : Int) (x6 : Int) (h : Hp) : w12_Weight_l116 k (N116 + 1) M116 x1 x2 x5 x6 h = pad x2 0 fun p9 => ldv h p9 fun v10 => lna v10 fun n11 => bsp ((decide (x6 < n11))) (w12_Weight_p465 k N116 M116 (x1) x2 (x5) (x6) ((decide (x5 ≤ x1))) (h)) (w12_Weight_p465 k N116 M116 (x1) x2 (x5) (x6) (false) (h)) := nrfl (by kernel_rfl)
theorem w12_Weight_p465_eq (k : Nat) (N116 M116 : Nat) (x1 : Int) (x2 : AV) (x5 : Int) (x6 : Int) (x28 : Bool) (h : Hp) : w12_Weight_p465 k N116 M116 x1 x2 x5 x6 x28 h = bsp (x28) (pad x2 0 fun p12 => ldv h p12 fun v13 => ixa 4 v13 x6 fun p14 => ldg 4 h p14 fun v15 => nwc 1 (some [(.rv .nils), (.rv .nils), (.rv .nils), (.rv .nils)]) h fun p16 h17 => stv 4 h17 p16 v15 fun h18 => pad p16 0 fun p19 => ldv h18 p19 fun v20 => lna v20 fun n21 => pad p16 1 fun p22 => ldv h18 p22 fun v23 => lna v23 fun n24 => w12_Weight_l59700 k N116 M116 k h18.length (x1) x2 ((wri .i64 ((wri .i64 (x5 + n21)) + n24))) (x6) p16 (0) (h18)) (w12_Weight_p15 k (x5) (h)) := nrfl (by kernel_rfl)
theorem w12_Weight_l59700_eq (k : Nat) (N116 M116 : Nat) (N59700 M59700 : Nat) (x1 : Int) (x2 : AV) (x5 : Int) (x6 : Int) (x7 : AV) (x8 : Int) (h : Hp) : w12_Weight_l59700 k N116 M116 (N59700 + 1) M59700 x1 x2 x5 x6 x7 x8 h = pad x7 2 fun p25 => ldv h p25 fun v26 => lna v26 fun n27 => bsp ((decide (x8 < n27))) (w12_Weight_p238801 k N116 M116 N59700 M59700 (x1) x2 (x5) (x6) x7 (x8) ((decide (x5 ≤ x1))) (h)) (w12_Weight_p238801 k N116 M116 N59700 M59700 (x1) x2 (x5) (x6) x7 (x8) (false) (h)) := nrfl (by kernel_rfl)
theorem w12_Weight_p15_eq (k : Nat) (x5 : Int) (h : Hp) : w12_Weight_p15 k x5 h = some (.ret (.rv (.int .i64 x5)), h) := nrfl (by kernel_rfl)
theorem w12_Weight_p238801_eq (k : Nat) (N116 M116 : Nat) (N59700 M59700 : Nat) (x1 : Int) (x2 : AV) (x5 : Int) (x6 : Int) (x7 : AV) (x8 : Int) (x54 : Bool) (h : Hp) : w12_Weight_p238801 k N116 M116 N59700 M59700 x1 x2 x5 x6 x7 x8 x54 h = bsp (x54) (pad x7 2 fun p28 => ldv h p28 fun v29 => ixa 5 v29 x8 fun p30 => pad p30 2 fun p31 => ldv h p31 fun v32 => lna v32 fun n33 => w12_Weight_l59700 k N116 M116 N59700 M59700 (x1) x2 ((wri .i64 ((wri .i64 (x5 + 1)) + n33))) (x6) x7 ((wri .i64 (x8 + 1))) (h)) (w12_Weight_p7463 k N116 M116 (x1) x2 (x5) (x6) x7 (h)) := nrfl (by kernel_rfl)
theorem w12_Weight_p7463_eq (k : Nat) (N116 M116 : Nat) (x1 : Int) (x2 : AV) (x5 : Int) (x6 : Int) (x7 : AV) (h : Hp) : w12_Weight_p7463 k N116 M116 x1 x2 x5 x6 x7 h = w12_Weight_l59708 k N116 M116 k h.length (x1) x2 (x5) (x6) x7 (0) (h) := nrfl (by kernel_rfl)
theorem w12_Weight_l59708_eq (k : Nat) (N116 M116 : Nat) (N59708 M59708 : Nat) (x1 : Int) (x2 : AV) (x5 : Int) (x6 : Int) (x7 : AV) (x9 : Int) (h : Hp) : w12_Weight_l59708 k N116 M116 (N59708 + 1) M59708 x1 x2 x5 x6 x7 x9 h = pad x7 3 fun p34 => ldv h p34 fun v35 => lna v35 fun n36 => bsp ((decide (x9 < n36))) (w12_Weight_p238833 k N116 M116 N59708 M59708 (x1) x2 (x5) (x6) x7 (x9) ((decide (x5 ≤ x1))) (h)) (w12_Weight_p238833 k N116 M116 N59708 M59708 (x1) x2 (x5) (x6) x7 (x9) (false) (h)) := nrfl (by kernel_rfl)
theorem w12_Weight_p238833_eq (k : Nat) (N116 M116 : Nat) (N59708 M59708 : Nat) (x1 : Int) (x2 : AV) (x5 : Int) (x6 : Int) (x7 : AV) (x9 : Int) (x76 : Bool) (h : Hp) : w12_Weight_p238833 k N116 M116 N59708 M59708 x1 x2 x5 x6 x7 x9 x76 h = bsp (x76) (pad x7 3 fun p37 => ldv h p37 fun v38 => ixa 6 v38 x9 fun p39 => ldg 6 h p39 fun v40 => nwc 1 (some [(.rv (.int .i64 0)), (.rv (.int .i64 0)), (.rv .nils), (.rv .nils), (.rv .nils), (.rv .nils)]) h fun p41 h42 => stv 6 h42 p41 v40 fun h43 => pad p41 2 fun p44 => ldv h43 p44 fun v45 => lna v45 fun n46 => pad p41 3 fun p47 => ldv h43 p47 fun v48 => lna v48 fun n49 => pad p41 4 fun p50 => ldv h43 p50 fun v51 => lna v51 fun n52 => pad p41 5 fun p53 => ldv h43 p53 fun v54 => lna v54 fun n55 => w12_Weight_l59708 k N116 M116 N59708 M59708 (x1) x2 ((wri .i64 ((wri .i64 ((wri .i64 ((wri .i64 ((wri .i64 (x5 + 1)) + n46)) + n49)) + n52)) + n55))) (x6) x7 ((wri .i64 (x9 + 1))) (h43)) (w12_Weight_p467 k N116 M116 (x1) x2 (x5) (x6) (h)) := nrfl (by kernel_rfl)
theorem w12_Weight_p467_eq (k : Nat) (N116 M116 : Nat) (x1 : Int) (x2 : AV) (x5 : Int) (x6 : Int) (h : Hp) : w12_Weight_p467 k N116 M116 x1 x2 x5 x6 h = w12_Weight_l116 k N116 M116 (x1) x2 (x5) ((wri .i64 (x6 + 1))) (h) := nrfl (by kernel_rfl)
theorem w12_Weight_eq (k : Nat) (x0 : AV) (x1 : Int) (h : Hp) : fnA Try.prog w12_Weight_G w12_Weight_A w12_Weight_R k Try.f7 [x0, (.rv (.int .i64 x1))] h = nwc 1 (vcells x0) h fun p1 h2 => pad p1 0 fun p3 => ldv h2 p3 fun v4 => lna v4 fun n5 => pad p1 1 fun p6 => ldv h2 p6 fun v7 => lna v7 fun n8 => w12_Weight_l116 k k h2.length (x1) p1 ((wri .i64 (n5 + (wri .i64 (Int.tdiv n8 64))))) (0) (h2) := nrfl (by kernel_rfl)
theorem w12_Weight_good : Good Try.prog w12_Weight_G := fun f c hc => by cases hc
noncomputable def F_w12_Weight : List RV → Option Res := fun rs => pureR (fnA Try.prog w12_Weight_G w12_Weight_A w12_Weight_R big Try.f7 (rs.map .rv) [])
theorem good_w12_Weight : GoodC Try.prog 7 (.pure F_w12_Weight) := goodP mixed w12_Weight_good (by kernel_rfl : Try.prog.funcs[7]? = some Try.f7) rfl rfl (fun rs r h => ⟨big, h⟩)

/-! gantry/gantrylaw13.num -/
abbrev id_w13_num : FuncId := 10
noncomputable def w13_num_G : FuncId → Option Callee := fun f => match f with
  | _ => none
def w13_num_A : Ann := []
def w13_num_R : List Nat := []
noncomputable def w13_num_c (k pos : Nat) : St → Cont (ARes × Hp) → Option (ARes × Hp) := acode Try.prog w13_num_G w13_num_A w13_num_R k (cdAt (pathOf pos) (bodyOf Try.f10)) pos
theorem w13_num_eq (k : Nat) (x0 : Int) (h : Hp) : fnA Try.prog w13_num_G w13_num_A w13_num_R k Try.f10 [(.rv (.int .i64 x0))] h = some (.ret (.rv (.int .i64 x0)), h) := nrfl (by kernel_rfl)
theorem w13_num_good : Good Try.prog w13_num_G := fun f c hc => by cases hc
noncomputable def F_w13_num : List RV → Option Res := fun rs => pureR (fnA Try.prog w13_num_G w13_num_A w13_num_R big Try.f10 (rs.map .rv) [])
theorem good_w13_num : GoodC Try.prog 10 (.pure F_w13_num) := goodP mixed w13_num_good (by kernel_rfl : Try.prog.funcs[10]? = some Try.f10) rfl rfl (fun rs r h => ⟨big, h⟩)

/-! gantry/gantryref13.Hole -/
abbrev id_r13_Hole : FuncId := 12
noncomputable def r13_Hole_G : FuncId → Option Callee := fun f => match f with
  | _ => none
def r13_Hole_A : Ann := []
def r13_Hole_R : List Nat := []
noncomputable def r13_Hole_c (k pos : Nat) : St → Cont (ARes × Hp) → Option (ARes × Hp) := acode Try.prog r13_Hole_G r13_Hole_A r13_Hole_R k (cdAt (pathOf pos) (bodyOf Try.f12)) pos
theorem r13_Hole_eq (k : Nat) (x0 : AV) (h : Hp) : fnA Try.prog r13_Hole_G r13_Hole_A r13_Hole_R k Try.f12 [x0] h = nwc 1 (vcells x0) h fun p1 h2 => pad p1 0 fun p3 => ldi .i64 h2 p3 fun n4 => some (.ret (.rv (.bool (n4 == 0))), h2) := nrfl (by kernel_rfl)
theorem r13_Hole_good : Good Try.prog r13_Hole_G := fun f c hc => by cases hc
noncomputable def F_r13_Hole : List RV → Option Res := fun rs => pureR (fnA Try.prog r13_Hole_G r13_Hole_A r13_Hole_R big Try.f12 (rs.map .rv) [])
theorem good_r13_Hole : GoodC Try.prog 12 (.pure F_r13_Hole) := goodP mixed r13_Hole_good (by kernel_rfl : Try.prog.funcs[12]? = some Try.f12) rfl rfl (fun rs r h => ⟨big, h⟩)

/-! gantry/gantryref0.CopyNumbers -/
abbrev id_r0_CopyNumbers : FuncId := 35
noncomputable def r0_CopyNumbers_G : FuncId → Option Callee := fun f => match f with
  | _ => none
def r0_CopyNumbers_A : Ann := []
def r0_CopyNumbers_R : List Nat := []
noncomputable def r0_CopyNumbers_c (k pos : Nat) : St → Cont (ARes × Hp) → Option (ARes × Hp) := acode Try.prog r0_CopyNumbers_G r0_CopyNumbers_A r0_CopyNumbers_R k (cdAt (pathOf pos) (bodyOf Try.f35)) pos
theorem r0_CopyNumbers_eq (k : Nat) (x0 : AV) (h : Hp) : fnA Try.prog r0_CopyNumbers_G r0_CopyNumbers_A r0_CopyNumbers_R k Try.f35 [x0] h = apn 1 8 h (.rv .nils) x0 fun v1 h2 => some (.ret v1, h2) := nrfl (by kernel_rfl)
theorem r0_CopyNumbers_good : Good Try.prog r0_CopyNumbers_G := fun f c hc => by cases hc
noncomputable def F_r0_CopyNumbers : List RV → Option Res := fun rs => pureR (fnA Try.prog r0_CopyNumbers_G r0_CopyNumbers_A r0_CopyNumbers_R big Try.f35 (rs.map .rv) [])
theorem good_r0_CopyNumbers : GoodC Try.prog 35 (.pure F_r0_CopyNumbers) := goodP mixed r0_CopyNumbers_good (by kernel_rfl : Try.prog.funcs[35]? = some Try.f35) rfl rfl (fun rs r h => ⟨big, h⟩)

/-! gantry/gantryref0.CopyValue -/
abbrev id_r0_CopyValue : FuncId := 59
noncomputable def r0_CopyValue_G : FuncId → Option Callee := fun f => match f with
  | 35 => some (.pure F_r0_CopyNumbers)
  | _ => none
def r0_CopyValue_A : Ann := []
def r0_CopyValue_R : List Nat := []
noncomputable def r0_CopyValue_c (k pos : Nat) : St → Cont (ARes × Hp) → Option (ARes × Hp) := acode Try.prog r0_CopyValue_G r0_CopyValue_A r0_CopyValue_R k (cdAt (pathOf pos) (bodyOf Try.f59)) pos
theorem r0_CopyValue_eq (k : Nat) (x0 : AV) (h : Hp) : fnA Try.prog r0_CopyValue_G r0_CopyValue_A r0_CopyValue_R k Try.f59 [x0] h = nwc 1 (vcells x0) h fun p1 h2 => nwc 1 (some [(.rv (.int .i64 0)), (.rv (.int .i64 0)), (.rv .nils), (.rv (.int .i64 0)), (.rv (.int .i64 0))]) h2 fun p3 h4 => ldg 5 h4 p1 fun v5 => nwc 1 (some [(.rv (.int .i64 0)), (.rv (.int .i64 0)), (.rv .nils), (.rv (.int .i64 0)), (.rv (.int .i64 0))]) h4 fun p6 h7 => stv 5 h7 p6 v5 fun h8 => pad p1 2 fun p9 => ldv h8 p9 fun v10 => callP F_r0_CopyNumbers h8 [v10] (fun r11 => pad p6 2 fun p13 => stv 1 h8 p13 r11 fun h14 => ldg 5 h14 p6 fun v15 => stv 5 h14 p3 v15 fun h16 => finR (((cellsN h16 p3 0 5).map .agg)) h16) (fun q12 => some (.pan q12, h8)) := nrfl (by kernel_rfl)
theorem r0_CopyValue_good : Good Try.prog r0_CopyValue_G := by
  intro f c hc
  unfold r0_CopyValue_G at hc
  split at hc
  · cases hc; exact good_r0_CopyNumbers
  · cases hc
noncomputable def F_r0_CopyValue : List RV → Option Res := fun rs => pureR (fnA Try.prog r0_CopyValue_G r0_CopyValue_A r0_CopyValue_R big Try.f59 (rs.map .rv) [])
theorem good_r0_CopyValue : GoodC Try.prog 59 (.pure F_r0_CopyValue) := goodP mixed r0_CopyValue_good (by kernel_rfl : Try.prog.funcs[59]? = some Try.f59) rfl rfl (fun rs r h => ⟨big, h⟩)

/-! gantry/gantryref0.CopyValues -/
abbrev id_r0_CopyValues : FuncId := 36
noncomputable def r0_CopyValues_G : FuncId → Option Callee := fun f => match f with
  | 59 => some (.pure F_r0_CopyValue)
  | _ => none
def r0_CopyValues_A : Ann := [(15, [3]), (116, [0, 3, 4])]
def r0_CopyValues_R : List Nat := []
noncomputable def r0_CopyValues_c (k pos : Nat) : St → Cont (ARes × Hp) → Option (ARes × Hp) := acode Try.prog r0_CopyValues_G r0_CopyValues_A r0_CopyValues_R k (cdAt (pathOf pos) (bodyOf Try.f36)) pos
noncomputable def r0_CopyValues_K0 (k : Nat) : Cont (ARes × Hp) := seqK (r0_CopyValues_c k 15) true (clrA r0_CopyValues_A 15) (finA Try.prog Try.f36)
noncomputable def r0_CopyValues_K1 (k : Nat) : Cont (ARes × Hp) := blkK 0 (r0_CopyValues_K0 k)
def r0_CopyValues_T116 (x0 : AV) (x3 : AV) (x4 : Int) : List AV := x0 :: an 2 (x3 :: (.rv (.int .i64 x4)) :: an 15 ([]))
noncomputable def r0_CopyValues_l116 (k : Nat) (N116 M116 : Nat) (x0 : AV) (x3 : AV) (x4 : Int) (h : Hp) : Option (ARes × Hp) := aloop (r0_CopyValues_c k 116) (clrA r0_CopyValues_A 116) (trimOf r0_CopyValues_R 116) M116 N116 ⟨r0_CopyValues_T116 x0 x3 x4, h⟩ (r0_CopyValues_K1 k)
def r0_CopyValues_T15 (x3 : AV) : List AV := an 3 (x3 :: an 16 ([]))
noncomputable def r0_CopyValues_p15 (k : Nat) (x3 : AV) (h : Hp) : Option (ARes × Hp) := pnt (r0_CopyValues_c k 15) ⟨r0_CopyValues_T15 x3, h⟩ (finA Try.prog Try.f36)
theorem r0_CopyValues_l116_eq (k : Nat) (N116 M116 : Nat) (x0 : AV) (x3 : AV) (x4 : Int) (h : Hp) : r0_CopyValues_l116 k (N116 + 1) M116 x0 x3 x4 h = lna x0 fun n1 => bsp ((decide (x4 < n1))) (ixa 5 x0 x4 fun p2 => ldg 5 h p2 fun v3 => callP F_r0_CopyValue h [v3] (fun r4 => bsl 5 1 [(.rv (.int .i64 0)), (.rv (.int .i64 0)), (.rv .nils), (.rv (.int .i64 0)), (.rv (.int .i64 0))] [(some (0, 5), r4)] h fun v6 h7 => apn 5 56 h7 x3 v6 fun v8 h9 => r0_CopyValues_l116 k N116 M116 x0 v8 ((wri .i64 (x4 + 1))) (h9)) (fun q5 => some (.pan q5, h))) (r0_CopyValues_p15 k x3 (h)) := nrfl (by kernel_rfl)
theorem r0_CopyValues_p15_eq (k : Nat) (x3 : AV) (h : Hp) : r0_CopyValues_p15 k x3 h = some (.ret x3, h) := nrfl (by kernel_rfl)
theorem r0_CopyValues_eq (k : Nat) (x0 : AV) (h : Hp) : fnA Try.prog r0_CopyValues_G r0_CopyValues_A r0_CopyValues_R k Try.f36 [x0] h = r0_CopyValues_l116 k k h.length x0 (.rv .nils) (0) (h) := nrfl (by kernel_rfl)
theorem r0_CopyValues_good : Good Try.prog r0_CopyValues_G := by
  intro f c hc
  unfold r0_CopyValues_G at hc
  split at hc
  · cases hc; exact good_r0_CopyValue
  · cases hc
noncomputable def F_r0_CopyValues : List RV → Option Res := fun rs => pureR (fnA Try.prog r0_CopyValues_G r0_CopyValues_A r0_CopyValues_R big Try.f36 (rs.map .rv) [])
theorem good_r0_CopyValues : GoodC Try.prog 36 (.pure F_r0_CopyValues) := goodP mixed r0_CopyValues_good (by kernel_rfl : Try.prog.funcs[36]? = some Try.f36) rfl rfl (fun rs r h => ⟨big, h⟩)

/-! gantry/gantryref0.CopyBlock -/
abbrev id_r0_CopyBlock : FuncId := 60
noncomputable def r0_CopyBlock_G : FuncId → Option Callee := fun f => match f with
  | 35 => some (.pure F_r0_CopyNumbers)
  | _ => none
def r0_CopyBlock_A : Ann := []
def r0_CopyBlock_R : List Nat := []
noncomputable def r0_CopyBlock_c (k pos : Nat) : St → Cont (ARes × Hp) → Option (ARes × Hp) := acode Try.prog r0_CopyBlock_G r0_CopyBlock_A r0_CopyBlock_R k (cdAt (pathOf pos) (bodyOf Try.f60)) pos
theorem r0_CopyBlock_eq (k : Nat) (x0 : AV) (h : Hp) : fnA Try.prog r0_CopyBlock_G r0_CopyBlock_A r0_CopyBlock_R k Try.f60 [x0] h = nwc 1 (vcells x0) h fun p1 h2 => nwc 1 (some [(.rv (.int .i64 0)), (.rv (.int .i64 0)), (.rv .nils), (.rv .nils), (.rv .nils), (.rv .nils)]) h2 fun p3 h4 => ldg 6 h4 p1 fun v5 => nwc 1 (some [(.rv (.int .i64 0)), (.rv (.int .i64 0)), (.rv .nils), (.rv .nils), (.rv .nils), (.rv .nils)]) h4 fun p6 h7 => stv 6 h7 p6 v5 fun h8 => pad p1 2 fun p9 => ldv h8 p9 fun v10 => callP F_r0_CopyNumbers h8 [v10] (fun r11 => pad p6 2 fun p13 => stv 1 h8 p13 r11 fun h14 => pad p1 3 fun p15 => ldv h14 p15 fun v16 => callP F_r0_CopyNumbers h14 [v16] (fun r17 => pad p6 3 fun p19 => stv 1 h14 p19 r17 fun h20 => pad p1 4 fun p21 => ldv h20 p21 fun v22 => callP F_r0_CopyNumbers h20 [v22] (fun r23 => pad p6 4 fun p25 => stv 1 h20 p25 r23 fun h26 => pad p1 5 fun p27 => ldv h26 p27 fun v28 => callP F_r0_CopyNumbers h26 [v28] (fun r29 => pad p6 5 fun p31 => stv 1 h26 p31 r29 fun h32 => ldg 6 h32 p6 fun v33 => stv 6 h32 p3 v33 fun h34 => finR (((cellsN h34 p3 0 6).map .agg)) h34) (fun q30 => some (.pan q30, h26))) (fun q24 => some (.pan q24, h20))) (fun q18 => some (.pan q18, h14))) (fun q12 => some (.pan q12, h8)) := nrfl (by kernel_rfl)
theorem r0_CopyBlock_good : Good Try.prog r0_CopyBlock_G := by
  intro f c hc
  unfold r0_CopyBlock_G at hc
  split at hc
  · cases hc; exact good_r0_CopyNumbers
  · cases hc
noncomputable def F_r0_CopyBlock : List RV → Option Res := fun rs => pureR (fnA Try.prog r0_CopyBlock_G r0_CopyBlock_A r0_CopyBlock_R big Try.f60 (rs.map .rv) [])
theorem good_r0_CopyBlock : GoodC Try.prog 60 (.pure F_r0_CopyBlock) := goodP mixed r0_CopyBlock_good (by kernel_rfl : Try.prog.funcs[60]? = some Try.f60) rfl rfl (fun rs r h => ⟨big, h⟩)

/-! gantry/gantryref0.CopyBlocks -/
abbrev id_r0_CopyBlocks : FuncId := 37
noncomputable def r0_CopyBlocks_G : FuncId → Option Callee := fun f => match f with
  | 60 => some (.pure F_r0_CopyBlock)
  | _ => none
def r0_CopyBlocks_A : Ann := [(15, [3]), (116, [0, 3, 4])]
def r0_CopyBlocks_R : List Nat := []
noncomputable def r0_CopyBlocks_c (k pos : Nat) : St → Cont (ARes × Hp) → Option (ARes × Hp) := acode Try.prog r0_CopyBlocks_G r0_CopyBlocks_A r0_CopyBlocks_R k (cdAt (pathOf pos) (bodyOf Try.f37)) pos
noncomputable def r0_CopyBlocks_K0 (k : Nat) : Cont (ARes × Hp) := seqK (r0_CopyBlocks_c k 15) true (clrA r0_CopyBlocks_A 15) (finA Try.prog Try.f37)
noncomputable def r0_CopyBlocks_K1 (k : Nat) : Cont (ARes × Hp) := blkK 0 (r0_CopyBlocks_K0 k)
def r0_CopyBlocks_T116 (x0 : AV) (x3 : AV) (x4 : Int) : List AV := x0 :: an 2 (x3 :: (.rv (.int .i64 x4)) :: an 15 ([]))
noncomputable def r0_CopyBlocks_l116 (k : Nat) (N116 M116 : Nat) (x0 : AV) (x3 : AV) (x4 : Int) (h : Hp) : Option (ARes × Hp) := aloop (r0_CopyBlocks_c k 116) (clrA r0_CopyBlocks_A 116) (trimOf r0_CopyBlocks_R 116) M116 N116 ⟨r0_CopyBlocks_T116 x0 x3 x4, h⟩ (r0_CopyBlocks_K1 k)
def r0_CopyBlocks_T15 (x3 : AV) : List AV := an 3 (x3 :: an 16 ([]))
noncomputable def r0_CopyBlocks_p15 (k : Nat) (x3 : AV) (h : Hp) : Option (ARes × Hp) := pnt (r0_CopyBlocks_c k 15) ⟨r0_CopyBlocks_T15 x3, h⟩ (finA Try.prog Try.f37)
theorem r0_CopyBlocks_l116_eq (k : Nat) (N116 M116 : Nat) (x0 : AV) (x3 : AV) (x4 : Int) (h : Hp) : r0_CopyBlocks_l116 k (N116 + 1) M116 x0 x3 x4 h = lna x0 fun n1 => bsp ((decide (x4 < n1))) (ixa 6 x0 x4 fun p2 => ldg 6 h p2 fun v3 => callP F_r0_CopyBlock h [v3] (fun r4 => bsl 6 1 [(.rv (.int .i64 0)), (.rv (.int .i64 0)), (.rv .nils), (.rv .nils), (.rv .nils), (.rv .nils)] [(some (0, 6), r4)] h fun v6 h7 => apn 6 112 h7 x3 v6 fun v8 h9 => r0_CopyBlocks_l116 k N116 M116 x0 v8 ((wri .i64 (x4 + 1))) (h9)) (fun q5 => some (.pan q5, h))) (r0_CopyBlocks_p15 k x3 (h)) := nrfl (by kernel_rfl)
theorem r0_CopyBlocks_p15_eq (k : Nat) (x3 : AV) (h : Hp) : r0_CopyBlocks_p15 k x3 h = some (.ret x3, h) := nrfl (by kernel_rfl)
theorem r0_CopyBlocks_eq (k : Nat) (x0 : AV) (h : Hp) : fnA Try.prog r0_CopyBlocks_G r0_CopyBlocks_A r0_CopyBlocks_R k Try.f37 [x0] h = r0_CopyBlocks_l116 k k h.length x0 (.rv .nils) (0) (h) := nrfl (by kernel_rfl)
theorem r0_CopyBlocks_good : Good Try.prog r0_CopyBlocks_G := by
  intro f c hc
  unfold r0_CopyBlocks_G at hc
  split at hc
  · cases hc; exact good_r0_CopyBlock
  · cases hc
noncomputable def F_r0_CopyBlocks : List RV → Option Res := fun rs => pureR (fnA Try.prog r0_CopyBlocks_G r0_CopyBlocks_A r0_CopyBlocks_R big Try.f37 (rs.map .rv) [])
theorem good_r0_CopyBlocks : GoodC Try.prog 37 (.pure F_r0_CopyBlocks) := goodP mixed r0_CopyBlocks_good (by kernel_rfl : Try.prog.funcs[37]? = some Try.f37) rfl rfl (fun rs r h => ⟨big, h⟩)

/-! gantry/gantryref0.CopyCode -/
abbrev id_r0_CopyCode : FuncId := 9
noncomputable def r0_CopyCode_G : FuncId → Option Callee := fun f => match f with
  | 35 => some (.pure F_r0_CopyNumbers)
  | 36 => some (.pure F_r0_CopyValues)
  | 37 => some (.pure F_r0_CopyBlocks)
  | _ => none
def r0_CopyCode_A : Ann := []
def r0_CopyCode_R : List Nat := []
noncomputable def r0_CopyCode_c (k pos : Nat) : St → Cont (ARes × Hp) → Option (ARes × Hp) := acode Try.prog r0_CopyCode_G r0_CopyCode_A r0_CopyCode_R k (cdAt (pathOf pos) (bodyOf Try.f9)) pos
theorem r0_CopyCode_eq (k : Nat) (x0 : AV) (h : Hp) : fnA Try.prog r0_CopyCode_G r0_CopyCode_A r0_CopyCode_R k Try.f9 [x0] h = nwc 1 (vcells x0) h fun p1 h2 => nwc 1 (some [(.rv .nils), (.rv .nils), (.rv .nils), (.rv .nils)]) h2 fun p3 h4 => ldg 4 h4 p1 fun v5 => nwc 1 (some [(.rv .nils), (.rv .nils), (.rv .nils), (.rv .nils)]) h4 fun p6 h7 => stv 4 h7 p6 v5 fun h8 => pad p1 0 fun p9 => ldv h8 p9 fun v10 => callP F_r0_CopyNumbers h8 [v10] (fun r11 => pad p6 0 fun p13 => stv 1 h8 p13 r11 fun h14 => pad p1 1 fun p15 => ldv h14 p15 fun v16 => callP F_r0_CopyNumbers h14 [v16] (fun r17 => pad p6 1 fun p19 => stv 1 h14 p19 r17 fun h20 => pad p1 2 fun p21 => ldv h20 p21 fun v22 => callP F_r0_CopyValues h20 [v22] (fun r23 => pad p6 2 fun p25 => stv 1 h20 p25 r23 fun h26 => pad p1 3 fun p27 => ldv h26 p27 fun v28 => callP F_r0_CopyBlocks h26 [v28] (fun r29 => pad p6 3 fun p31 => stv 1 h26 p31 r29 fun h32 => ldg 4 h32 p6 fun v33 => stv 4 h32 p3 v33 fun h34 => finR (((cellsN h34 p3 0 4).map .agg)) h34) (fun q30 => some (.pan q30, h26))) (fun q24 => some (.pan q24, h20))) (fun q18 => some (.pan q18, h14))) (fun q12 => some (.pan q12, h8)) := nrfl (by kernel_rfl)
theorem r0_CopyCode_good : Good Try.prog r0_CopyCode_G := by
  intro f c hc
  unfold r0_CopyCode_G at hc
  split at hc
  · cases hc; exact good_r0_CopyNumbers
  · cases hc; exact good_r0_CopyValues
  · cases hc; exact good_r0_CopyBlocks
  · cases hc
noncomputable def F_r0_CopyCode : List RV → Option Res := fun rs => pureR (fnA Try.prog r0_CopyCode_G r0_CopyCode_A r0_CopyCode_R big Try.f9 (rs.map .rv) [])
theorem good_r0_CopyCode : GoodC Try.prog 9 (.pure F_r0_CopyCode) := goodP mixed r0_CopyCode_good (by kernel_rfl : Try.prog.funcs[9]? = some Try.f9) rfl rfl (fun rs r h => ⟨big, h⟩)

/-! gantry/gantryref13.Count -/
abbrev id_r13_Count : FuncId := 40
noncomputable def r13_Count_G : FuncId → Option Callee := fun f => match f with
  | _ => none
def r13_Count_A : Ann := [(15, [5]), (116, [0, 1, 5, 6]), (467, [0, 1, 5, 6])]
def r13_Count_R : List Nat := []
noncomputable def r13_Count_c (k pos : Nat) : St → Cont (ARes × Hp) → Option (ARes × Hp) := acode Try.prog r13_Count_G r13_Count_A r13_Count_R k (cdAt (pathOf pos) (bodyOf Try.f40)) pos
noncomputable def r13_Count_K0 (k : Nat) : Cont (ARes × Hp) := seqK (r13_Count_c k 15) true (clrA r13_Count_A 15) (finA Try.prog Try.f40)
noncomputable def r13_Count_K1 (k : Nat) : Cont (ARes × Hp) := blkK 0 (r13_Count_K0 k)
noncomputable def r13_Count_K2 (k : Nat) (N116 M116 : Nat) : Cont (ARes × Hp) := itK (aloop (r13_Count_c k 116) (clrA r13_Count_A 116) (trimOf r13_Count_R 116) M116 N116) (clrA r13_Count_A 116) (trimOf r13_Count_R 116) M116 (r13_Count_K1 k)
def r13_Count_T116 (x0 : AV) (x1 : Int) (x5 : Int) (x6 : Int) : List AV := x0 :: (.rv (.int .i64 x1)) :: an 3 ((.rv (.int .i64 x5)) :: (.rv (.int .i64 x6)) :: an 15 ([]))
noncomputable def r13_Count_l116 (k : Nat) (N116 M116 : Nat) (x0 : AV) (x1 : Int) (x5 : Int) (x6 : Int) (h : Hp) : Option (ARes × Hp) := aloop (r13_Count_c k 116) (clrA r13_Count_A 116) (trimOf r13_Count_R 116) M116 N116 ⟨r13_Count_T116 x0 x1 x5 x6, h⟩ (r13_Count_K1 k)
def r13_Count_T467 (x0 : AV) (x1 : Int) (x5 : Int) (x6 : Int) : List AV := x0 :: (.rv (.int .i64 x1)) :: an 3 ((.rv (.int .i64 x5)) :: (.rv (.int .i64 x6)) :: an 15 ([]))
noncomputable def r13_Count_p467 (k : Nat) (N116 M116 : Nat) (x0 : AV) (x1 : Int) (x5 : Int) (x6 : Int) (h : Hp) : Option (ARes × Hp) := pnt (r13_Count_c k 467) ⟨r13_Count_T467 x0 x1 x5 x6, h⟩ (r13_Count_K2 k N116 M116)
def r13_Count_T15 (x5 : Int) : List AV := an 5 ((.rv (.int .i64 x5)) :: an 16 ([]))
noncomputable def r13_Count_p15 (k : Nat) (x5 : Int) (h : Hp) : Option (ARes × Hp) := pnt (r13_Count_c k 15) ⟨r13_Count_T15 x5, h⟩ (finA Try.prog Try.f40)
theorem r13_Count_l116_eq (k : Nat) (N116 M116 : Nat) (x0 : AV) (x1 : Int) (x5 : Int) (x6 : Int) (h : Hp) : r13_Count_l116 k (N116 + 1) M116 x0 x1 x5 x6 h = lna x0 fun n1 => bsp ((decide (x6 < n1))) (ixa 1 x0 x6 fun p2 => ldi .i64 h p2 fun n3 => bsp ((n3 == x1)) (r13_Count_p467 k N116 M116 x0 (x1) ((wri .i64 (x5 + 1))) (x6) (h)) (r13_Count_p467 k N116 M116 x0 (x1) (x5) (x6) (h))) (r13_Count_p15 k (x5) (h)) := nrfl (by kernel_rfl)
theorem r13_Count_p467_eq (k : Nat) (N116 M116 : Nat) (x0 : AV) (x1 : Int) (x5 : Int) (x6 : Int) (h : Hp) : r13_Count_p467 k N116 M116 x0 x1 x5 x6 h = r13_Count_l116 k N116 M116 x0 (x1) (x5) ((wri .i64 (x6 + 1))) (h) := nrfl (by kernel_rfl)
theorem r13_Count_p15_eq (k : Nat) (x5 : Int) (h : Hp) : r13_Count_p15 k x5 h = some (.ret (.rv (.int .i64 x5)), h) := nrfl (by kernel_rfl)
theorem r13_Count_eq (k : Nat) (x0 : AV) (x1 : Int) (h : Hp) : fnA Try.prog r13_Count_G r13_Count_A r13_Count_R k Try.f40 [x0, (.rv (.int .i64 x1))] h = r13_Count_l116 k k h.length x0 (x1) (0) (0) (h) := nrfl (by kernel_rfl)
theorem r13_Count_good : Good Try.prog r13_Count_G := fun f c hc => by cases hc
noncomputable def F_r13_Count : List RV → Option Res := fun rs => pureR (fnA Try.prog r13_Count_G r13_Count_A r13_Count_R big Try.f40 (rs.map .rv) [])
theorem good_r13_Count : GoodC Try.prog 40 (.pure F_r13_Count) := goodP mixed r13_Count_good (by kernel_rfl : Try.prog.funcs[40]? = some Try.f40) rfl rfl (fun rs r h => ⟨big, h⟩)

/-! gantry/gantryref13.succs -/
abbrev id_r13_succs : FuncId := 39
noncomputable def r13_succs_G : FuncId → Option Callee := fun f => match f with
  | _ => none
def r13_succs_A : Ann := [(863, [8])]
def r13_succs_R : List Nat := []
noncomputable def r13_succs_c (k pos : Nat) : St → Cont (ARes × Hp) → Option (ARes × Hp) := acode Try.prog r13_succs_G r13_succs_A r13_succs_R k (cdAt (pathOf pos) (bodyOf Try.f39)) pos
noncomputable def r13_succs_K0 (k : Nat) : Cont (ARes × Hp) := seqK (r13_succs_c k 7) false (clrA r13_succs_A 7) (finA Try.prog Try.f39)
noncomputable def r13_succs_K1 (k : Nat) : Cont (ARes × Hp) := blkK 0 (r13_succs_K0 k)
def r13_succs_T863 (x8 : Bool) : List AV := an 8 ((.rv (.bool x8)) :: an 2 ([]))
noncomputable def r13_succs_p863 (k : Nat) (x8 : Bool) (h : Hp) : Option (ARes × Hp) := pnt (r13_succs_c k 863) ⟨r13_succs_T863 x8, h⟩ (r13_succs_K1 k)
theorem r13_succs_p863_eq (k : Nat) (x8 : Bool) (h : Hp) : r13_succs_p863 k x8 h = bsp (x8) (some (.ret (.rv (.int .i64 0)), h)) (some (.ret (.rv (.int .i64 (-1))), h)) := nrfl (by kernel_rfl)
theorem r13_succs_eq (k : Nat) (x0 : Int) (h : Hp) : fnA Try.prog r13_succs_G r13_succs_A r13_succs_R k Try.f39 [(.rv (.int .i64 x0))] h = bsp ((x0 == 1)) (some (.ret (.rv (.int .i64 1)), h)) (bsp ((x0 == 2)) (some (.ret (.rv (.int .i64 2)), h)) (bsp ((x0 == 3)) (r13_succs_p863 k ((x0 == 3)) (h)) (r13_succs_p863 k ((x0 == 4)) (h)))) := nrfl (by kernel_rfl)
theorem r13_succs_good : Good Try.prog r13_succs_G := fun f c hc => by cases hc
noncomputable def F_r13_succs : List RV → Option Res := fun rs => pureR (fnA Try.prog r13_succs_G r13_succs_A r13_succs_R big Try.f39 (rs.map .rv) [])
theorem good_r13_succs : GoodC Try.prog 39 (.pure F_r13_succs) := goodP mixed r13_succs_good (by kernel_rfl : Try.prog.funcs[39]? = some Try.f39) rfl rfl (fun rs r h => ⟨big, h⟩)

/-! gantry/gantryref13.numbers -/
abbrev id_r13_numbers : FuncId := 61
noncomputable def r13_numbers_G : FuncId → Option Callee := fun f => match f with
  | 12 => some (.pure F_r13_Hole)
  | _ => none
def r13_numbers_A : Ann := [(7, []), (52, [1, 2, 5]), (841, [1, 2, 5, 37])]
def r13_numbers_R : List Nat := []
noncomputable def r13_numbers_c (k pos : Nat) : St → Cont (ARes × Hp) → Option (ARes × Hp) := acode Try.prog r13_numbers_G r13_numbers_A r13_numbers_R k (cdAt (pathOf pos) (bodyOf Try.f61)) pos
noncomputable def r13_numbers_K0 (k : Nat) : Cont (ARes × Hp) := seqK (r13_numbers_c k 7) true (clrA r13_numbers_A 7) (finA Try.prog Try.f61)
noncomputable def r13_numbers_K1 (k : Nat) : Cont (ARes × Hp) := blkK 0 (r13_numbers_K0 k)
noncomputable def r13_numbers_K2 (k : Nat) (N52 M52 : Nat) : Cont (ARes × Hp) := itK (aloop (r13_numbers_c k 52) (clrA r13_numbers_A 52) (trimOf r13_numbers_R 52) M52 N52) (clrA r13_numbers_A 52) (trimOf r13_numbers_R 52) M52 (r13_numbers_K1 k)
noncomputable def r13_numbers_K3 (k : Nat) (N52 M52 : Nat) : Cont (ARes × Hp) := seqK (r13_numbers_c k 211) false (clrA r13_numbers_A 211) (r13_numbers_K2 k N52 M52)
noncomputable def r13_numbers_K4 (k : Nat) (N52 M52 : Nat) : Cont (ARes × Hp) := blkK 1 (r13_numbers_K3 k N52 M52)
def r13_numbers_T52 (x1 : AV) (x2 : AV) (x5 : Int) : List AV := an 1 (x1 :: x2 :: an 2 ((.rv (.int .i64 x5)) :: an 32 ([])))
noncomputable def r13_numbers_l52 (k : Nat) (N52 M52 : Nat) (x1 : AV) (x2 : AV) (x5 : Int) (h : Hp) : Option (ARes × Hp) := aloop (r13_numbers_c k 52) (clrA r13_numbers_A 52) (trimOf r13_numbers_R 52) M52 N52 ⟨r13_numbers_T52 x1 x2 x5, h⟩ (r13_numbers_K1 k)
def r13_numbers_T841 (x1 : AV) (x2 : AV) (x5 : Int) (x37 : Bool) : List AV := an 1 (x1 :: x2 :: an 2 ((.rv (.int .i64 x5)) :: an 31 ((.rv (.bool x37)) :: [])))
noncomputable def r13_numbers_p841 (k : Nat) (N52 M52 : Nat) (x1 : AV) (x2 : AV) (x5 : Int) (x37 : Bool) (h : Hp) : Option (ARes × Hp) := pnt (r13_numbers_c k 841) ⟨r13_numbers_T841 x1 x2 x5 x37, h⟩ (r13_numbers_K4 k N52 M52)
def r13_numbers_T7  : List AV := an 38 ([])
noncomputable def r13_numbers_p7 (k : Nat)  (h : Hp) : Option (ARes × Hp) := pnt (r13_numbers_c k 7) ⟨r13_numbers_T7 , h⟩ (finA Try.prog Try.f61)
theorem r13_numbers_l52_eq (k : Nat) (N52 M52 : Nat) (x1 : AV) (x2 : AV) (x5 : Int) (h : Hp) : r13_numbers_l52 k (N52 + 1) M52 x1 x2 x5 h = lna x1 fun n3 => bsp ((decide (x5 < n3))) (ixa 1 x1 x5 fun p4 => ldi .i64 h p4 fun n5 => bsp ((decide (n5 < 0))) (r13_numbers_p841 k N52 M52 x1 x2 (x5) (true) (h)) (ixa 1 x1 x5 fun p6 => ldi .i64 h p6 fun n7 => pad x2 3 fun p8 => ldv h p8 fun v9 => lna v9 fun n10 => bsp ((decide (n7 ≥ n10))) (r13_numbers_p841 k N52 M52 x1 x2 (x5) (true) (h)) (pad x2 3 fun p11 => ldv h p11 fun v12 => ixa 1 x1 x5 fun p13 => ldi .i64 h p13 fun n14 => ixa 6 v12 n14 fun p15 => ldg 6 h p15 fun v16 => callP F_r13_Hole h [v16] (fun r17 => asBool r17 fun b19 => r13_numbers_p841 k N52 M52 x1 x2 (x5) (b19) (h)) (fun q18 => none)))) (r13_numbers_p7 k  (h)) := nrfl (by kernel_rfl)
theorem r13_numbers_p841_eq (k : Nat) (N52 M52 : Nat) (x1 : AV) (x2 : AV) (x5 : Int) (x37 : Bool) (h : Hp) : r13_numbers_p841 k N52 M52 x1 x2 x5 x37 h = bsp (x37) (some (.ret (.rv (.bool false)), h)) (r13_numbers_l52 k N52 M52 x1 x2 ((wri .i64 (x5 + 1))) (h)) := nrfl (by kernel_rfl)
theorem r13_numbers_p7_eq (k : Nat)  (h : Hp) : r13_numbers_p7 k  h = some (.ret (.rv (.bool true)), h) := nrfl (by kernel_rfl)
theorem r13_numbers_eq (k : Nat) (x0 : AV) (x1 : AV) (h : Hp) : fnA Try.prog r13_numbers_G r13_numbers_A r13_numbers_R k Try.f61 [x0, x1] h = nwc 1 (vcells x0) h fun p1 h2 => r13_numbers_l52 k k h2.length x1 p1 (0) (h2) := nrfl (by kernel_rfl)
theorem r13_numbers_good : Good Try.prog r13_numbers_G := by
  intro f c hc
  unfold r13_numbers_G at hc
  split at hc
  · cases hc; exact good_r13_Hole
  · cases hc
noncomputable def F_r13_numbers : List RV → Option Res := fun rs => pureR (fnA Try.prog r13_numbers_G r13_numbers_A r13_numbers_R big Try.f61 (rs.map .rv) [])
theorem good_r13_numbers : GoodC Try.prog 61 (.pure F_r13_numbers) := goodP mixed r13_numbers_good (by kernel_rfl : Try.prog.funcs[61]? = some Try.f61) rfl rfl (fun rs r h => ⟨big, h⟩)

/-! gantry/gantryref13.form -/
abbrev id_r13_form : FuncId := 38
noncomputable def r13_form_G : FuncId → Option Callee := fun f => match f with
  | 12 => some (.pure F_r13_Hole)
  | 39 => some (.pure F_r13_succs)
  | 61 => some (.pure F_r13_numbers)
  | _ => none
def r13_form_A : Ann := [(13, [1, 14]), (15, []), (116, [1, 3]), (467, [1, 3]), (7463, [1, 3, 56]), (59689, [1, 3, 38])]
def r13_form_R : List Nat := []
noncomputable def r13_form_c (k pos : Nat) : St → Cont (ARes × Hp) → Option (ARes × Hp) := acode Try.prog r13_form_G r13_form_A r13_form_R k (cdAt (pathOf pos) (bodyOf Try.f38)) pos
noncomputable def r13_form_K0 (k : Nat) : Cont (ARes × Hp) := seqK (r13_form_c k 7) false (clrA r13_form_A 7) (finA Try.prog Try.f38)
noncomputable def r13_form_K1 (k : Nat) : Cont (ARes × Hp) := seqK (r13_form_c k 15) true (clrA r13_form_A 15) (finA Try.prog Try.f38)
noncomputable def r13_form_K2 (k : Nat) : Cont (ARes × Hp) := blkK 0 (r13_form_K1 k)
noncomputable def r13_form_K3 (k : Nat) (N116 M116 : Nat) : Cont (ARes × Hp) := itK (aloop (r13_form_c k 116) (clrA r13_form_A 116) (trimOf r13_form_R 116) M116 N116) (clrA r13_form_A 116) (trimOf r13_form_R 116) M116 (r13_form_K2 k)
noncomputable def r13_form_K4 (k : Nat) (N116 M116 : Nat) : Cont (ARes × Hp) := seqK (r13_form_c k 467) true (clrA r13_form_A 467) (r13_form_K3 k N116 M116)
noncomputable def r13_form_K5 (k : Nat) (N116 M116 : Nat) : Cont (ARes × Hp) := blkK 1 (r13_form_K4 k N116 M116)
noncomputable def r13_form_K6 (k : Nat) (N116 M116 : Nat) : Cont (ARes × Hp) := seqK (r13_form_c k 3731) false (clrA r13_form_A 3731) (r13_form_K5 k N116 M116)
noncomputable def r13_form_K7 (k : Nat) (N116 M116 : Nat) : Cont (ARes × Hp) := seqK (r13_form_c k 29845) false (clrA r13_form_A 29845) (r13_form_K6 k N116 M116)
def r13_form_T13 (x1 : AV) (x14 : Bool) : List AV := an 1 (x1 :: an 12 ((.rv (.bool x14)) :: an 42 ([])))
noncomputable def r13_form_p13 (k : Nat) (x1 : AV) (x14 : Bool) (h : Hp) : Option (ARes × Hp) := pnt (r13_form_c k 13) ⟨r13_form_T13 x1 x14, h⟩ (r13_form_K0 k)
def r13_form_T116 (x1 : AV) (x3 : Int) : List AV := an 1 (x1 :: an 1 ((.rv (.int .i64 x3)) :: an 53 ([])))
noncomputable def r13_form_l116 (k : Nat) (N116 M116 : Nat) (x1 : AV) (x3 : Int) (h : Hp) : Option (ARes × Hp) := aloop (r13_form_c k 116) (clrA r13_form_A 116) (trimOf r13_form_R 116) M116 N116 ⟨r13_form_T116 x1 x3, h⟩ (r13_form_K2 k)
def r13_form_T59689 (x1 : AV) (x3 : Int) (x38 : Bool) : List AV := an 1 (x1 :: an 1 ((.rv (.int .i64 x3)) :: an 34 ((.rv (.bool x38)) :: an 18 ([]))))
noncomputable def r13_form_p59689 (k : Nat) (N116 M116 : Nat) (x1 : AV) (x3 : Int) (x38 : Bool) (h : Hp) : Option (ARes × Hp) := pnt (r13_form_c k 59689) ⟨r13_form_T59689 x1 x3 x38, h⟩ (r13_form_K7 k N116 M116)
def r13_form_T7463 (x1 : AV) (x3 : Int) (x56 : Bool) : List AV := an 1 (x1 :: an 1 ((.rv (.int .i64 x3)) :: an 52 ((.rv (.bool x56)) :: [])))
noncomputable def r13_form_p7463 (k : Nat) (N116 M116 : Nat) (x1 : AV) (x3 : Int) (x56 : Bool) (h : Hp) : Option (ARes × Hp) := pnt (r13_form_c k 7463) ⟨r13_form_T7463 x1 x3 x56, h⟩ (r13_form_K5 k N116 M116)
def r13_form_T15  : List AV := an 57 ([])
noncomputable def r13_form_p15 (k : Nat)  (h : Hp) : Option (ARes × Hp) := pnt (r13_form_c k 15) ⟨r13_form_T15 , h⟩ (finA Try.prog Try.f38)
def r13_form_T467 (x1 : AV) (x3 : Int) : List AV := an 1 (x1 :: an 1 ((.rv (.int .i64 x3)) :: an 53 ([])))
noncomputable def r13_form_p467 (k : Nat) (N116 M116 : Nat) (x1 : AV) (x3 : Int) (h : Hp) : Option (ARes × Hp) := pnt (r13_form_c k 467) ⟨r13_form_T467 x1 x3, h⟩ (r13_form_K3 k N116 M116)
theorem r13_form_p13_eq (k : Nat) (x1 : AV) (x14 : Bool) (h : Hp) : r13_form_p13 k x1 x14 h = bsp (x14) (some (.ret (.rv (.bool false)), h)) (r13_form_l116 k k h.length x1 (0) (h)) := nrfl (by kernel_rfl)
theorem r13_form_l116_eq (k : Nat) (N116 M116 : Nat) (x1 : AV) (x3 : Int) (h : Hp) : r13_form_l116 k (N116 + 1) M116 x1 x3 h = pad x1 3 fun p9 => ldv h p9 fun v10 => lna v10 fun n11 => bsp ((decide (x3 < n11))) (pad x1 3 fun p12 => ldv h p12 fun v13 => ixa 6 v13 x3 fun p14 => ldg 6 h p14 fun v15 => nwc 1 (some [(.rv (.int .i64 0)), (.rv (.int .i64 0)), (.rv .nils), (.rv .nils), (.rv .nils), (.rv .nils)]) h fun p16 h17 => stv 6 h17 p16 v15 fun h18 => ldg 6 h18 p16 fun v19 => callP F_r13_Hole h18 [v19] (fun r20 => asBool r20 fun b22 => bsp (b22) (pad p16 3 fun p23 => ldv h18 p23 fun v24 => lna v24 fun n25 => bsp ((decide (n25 > 0))) (r13_form_p59689 k N116 M116 x1 (x3) (true) (h18)) (pad p16 4 fun p26 => ldv h18 p26 fun v27 => lna v27 fun n28 => r13_form_p59689 k N116 M116 x1 (x3) ((decide (n28 > 0))) (h18))) (pad p16 0 fun p29 => ldi .i64 h18 p29 fun n30 => callP F_r13_succs h18 [(.rv (.int .i64 n30))] (fun r31 => asInt .i64 r31 fun n33 => bsp ((decide (n33 < 0))) (r13_form_p7463 k N116 M116 x1 (x3) (true) (h18)) (ldg 4 h18 x1 fun v34 => pad p16 3 fun p35 => ldv h18 p35 fun v36 => callP F_r13_numbers h18 [v34, v36] (fun r37 => asBool r37 fun b39 => bsp ((!b39)) (r13_form_p7463 k N116 M116 x1 (x3) (true) (h18)) (ldg 4 h18 x1 fun v40 => pad p16 4 fun p41 => ldv h18 p41 fun v42 => callP F_r13_numbers h18 [v40, v42] (fun r43 => asBool r43 fun b45 => r13_form_p7463 k N116 M116 x1 (x3) ((!b45)) (h18)) (fun q44 => some (.pan q44, h18)))) (fun q38 => some (.pan q38, h18)))) (fun q32 => some (.pan q32, h18)))) (fun q21 => some (.pan q21, h18))) (r13_form_p15 k  (h)) := nrfl (by kernel_rfl)
theorem r13_form_p59689_eq (k : Nat) (N116 M116 : Nat) (x1 : AV) (x3 : Int) (x38 : Bool) (h : Hp) : r13_form_p59689 k N116 M116 x1 x3 x38 h = bsp (x38) (some (.ret (.rv (.bool false)), h)) (r13_form_p467 k N116 M116 x1 (x3) (h)) := nrfl (by kernel_rfl)
theorem r13_form_p7463_eq (k : Nat) (N116 M116 : Nat) (x1 : AV) (x3 : Int) (x56 : Bool) (h : Hp) : r13_form_p7463 k N116 M116 x1 x3 x56 h = bsp (x56) (some (.ret (.rv (.bool false)), h)) (r13_form_p467 k N116 M116 x1 (x3) (h)) := nrfl (by kernel_rfl)
theorem r13_form_p15_eq (k : Nat)  (h : Hp) : r13_form_p15 k  h = some (.ret (.rv (.bool true)), h) := nrfl (by kernel_rfl)
theorem r13_form_p467_eq (k : Nat) (N116 M116 : Nat) (x1 : AV) (x3 : Int) (h : Hp) : r13_form_p467 k N116 M116 x1 x3 h = r13_form_l116 k N116 M116 x1 ((wri .i64 (x3 + 1))) (h) := nrfl (by kernel_rfl)
theorem r13_form_eq (k : Nat) (x0 : AV) (h : Hp) : fnA Try.prog r13_form_G r13_form_A r13_form_R k Try.f38 [x0] h = nwc 1 (vcells x0) h fun p1 h2 => pad p1 3 fun p3 => ldv h2 p3 fun v4 => lna v4 fun n5 => bsp ((n5 == 0)) (r13_form_p13 k p1 (true) (h2)) (pad p1 3 fun p6 => ldv h2 p6 fun v7 => lna v7 fun n8 => r13_form_p13 k p1 ((decide (n8 > 4096))) (h2)) := nrfl (by kernel_rfl)
theorem r13_form_good : Good Try.prog r13_form_G := by
  intro f c hc
  unfold r13_form_G at hc
  split at hc
  · cases hc; exact good_r13_Hole
  · cases hc; exact good_r13_succs
  · cases hc; exact good_r13_numbers
  · cases hc
noncomputable def F_r13_form : List RV → Option Res := fun rs => pureR (fnA Try.prog r13_form_G r13_form_A r13_form_R big Try.f38 (rs.map .rv) [])
theorem good_r13_form : GoodC Try.prog 38 (.pure F_r13_form) := goodP mixed r13_form_good (by kernel_rfl : Try.prog.funcs[38]? = some Try.f38) rfl rfl (fun rs r h => ⟨big, h⟩)

/-! gantry/gantryref13.Reached -/
abbrev id_r13_Reached : FuncId := 17
noncomputable def r13_Reached_G : FuncId → Option Callee := fun f => match f with
  | _ => none
def r13_Reached_A : Ann := [(127, [5]), (1012, [1, 2, 5, 6, 7]), (4051, [1, 2, 5, 6, 7]), (129612, [1, 2, 5, 6, 7, 8, 9]), (518451, [1, 2, 5, 6, 7, 8, 9]), (2073801, [1, 2, 5, 6, 7, 8, 9, 56])]
def r13_Reached_R : List Nat := []
noncomputable def r13_Reached_c (k pos : Nat) : St → Cont (ARes × Hp) → Option (ARes × Hp) := acode Try.prog r13_Reached_G r13_Reached_A r13_Reached_R k (cdAt (pathOf pos) (bodyOf Try.f17)) pos
noncomputable def r13_Reached_K0 (k : Nat) : Cont (ARes × Hp) := seqK (r13_Reached_c k 127) true (clrA r13_Reached_A 127) (finA Try.prog Try.f17)
noncomputable def r13_Reached_K1 (k : Nat) : Cont (ARes × Hp) := blkK 0 (r13_Reached_K0 k)
noncomputable def r13_Reached_K2 (k : Nat) (N1012 M1012 : Nat) : Cont (ARes × Hp) := itK (aloop (r13_Reached_c k 1012) (clrA r13_Reached_A 1012) (trimOf r13_Reached_R 1012) M1012 N1012) (clrA r13_Reached_A 1012) (trimOf r13_Reached_R 1012) M1012 (r13_Reached_K1 k)
noncomputable def r13_Reached_K3 (k : Nat) (N1012 M1012 : Nat) : Cont (ARes × Hp) := seqK (r13_Reached_c k 4051) true (clrA r13_Reached_A 4051) (r13_Reached_K2 k N1012 M1012)
noncomputable def r13_Reached_K4 (k : Nat) (N1012 M1012 : Nat) : Cont (ARes × Hp) := blkK 1 (r13_Reached_K3 k N1012 M1012)
noncomputable def r13_Reached_K5 (k : Nat) (N1012 M1012 : Nat) : Cont (ARes × Hp) := blkK 2 (r13_Reached_K4 k N1012 M1012)
noncomputable def r13_Reached_K6 (k : Nat) (N1012 M1012 : Nat) (N129612 M129612 : Nat) : Cont (ARes × Hp) := itK (aloop (r13_Reached_c k 129612) (clrA r13_Reached_A 129612) (trimOf r13_Reached_R 129612) M129612 N129612) (clrA r13_Reached_A 129612) (trimOf r13_Reached_R 129612) M129612 (r13_Reached_K5 k N1012 M1012)
noncomputable def r13_Reached_K7 (k : Nat) (N1012 M1012 : Nat) (N129612 M129612 : Nat) : Cont (ARes × Hp) := seqK (r13_Reached_c k 518451) true (clrA r13_Reached_A 518451) (r13_Reached_K6 k N1012 M1012 N129612 M129612)
noncomputable def r13_Reached_K8 (k : Nat) (N1012 M1012 : Nat) (N129612 M129612 : Nat) : Cont (ARes × Hp) := blkK 3 (r13_Reached_K7 k N1012 M1012 N129612 M129612)
def r13_Reached_T1012 (x1 : Int) (x2 : AV) (x5 : AV) (x6 : AV) (x7 : Int) : List AV := an 1 ((.rv (.int .i64 x1)) :: x2 :: an 2 (x5 :: x6 :: (.rv (.int .i64 x7)) :: an 63 ([])))
noncomputable def r13_Reached_l1012 (k : Nat) (N1012 M1012 : Nat) (x1 : Int) (x2 : AV) (x5 : AV) (x6 : AV) (x7 : Int) (h : Hp) : Option (ARes × Hp) := aloop (r13_Reached_c k 1012) (clrA r13_Reached_A 1012) (trimOf r13_Reached_R 1012) M1012 N1012 ⟨r13_Reached_T1012 x1 x2 x5 x6 x7, h⟩ (r13_Reached_K1 k)
def r13_Reached_T129612 (x1 : Int) (x2 : AV) (x5 : AV) (x6 : AV) (x7 : Int) (x8 : AV) (x9 : Int) : List AV := an 1 ((.rv (.int .i64 x1)) :: x2 :: an 2 (x5 :: x6 :: (.rv (.int .i64 x7)) :: x8 :: (.rv (.int .i64 x9)) :: an 61 ([])))
noncomputable def r13_Reached_l129612 (k : Nat) (N1012 M1012 : Nat) (N129612 M129612 : Nat) (x1 : Int) (x2 : AV) (x5 : AV) (x6 : AV) (x7 : Int) (x8 : AV) (x9 : Int) (h : Hp) : Option (ARes × Hp) := aloop (r13_Reached_c k 129612) (clrA r13_Reached_A 129612) (trimOf r13_Reached_R 129612) M129612 N129612 ⟨r13_Reached_T129612 x1 x2 x5 x6 x7 x8 x9, h⟩ (r13_Reached_K5 k N1012 M1012)
def r13_Reached_T127 (x5 : AV) : List AV := an 5 (x5 :: an 65 ([]))
noncomputable def r13_Reached_p127 (k : Nat) (x5 : AV) (h : Hp) : Option (ARes × Hp) := pnt (r13_Reached_c k 127) ⟨r13_Reached_T127 x5, h⟩ (finA Try.prog Try.f17)
def r13_Reached_T2073801 (x1 : Int) (x2 : AV) (x5 : AV) (x6 : AV) (x7 : Int) (x8 : AV) (x9 : Int) (x56 : Bool) : List AV := an 1 ((.rv (.int .i64 x1)) :: x2 :: an 2 (x5 :: x6 :: (.rv (.int .i64 x7)) :: x8 :: (.rv (.int .i64 x9)) :: an 46 ((.rv (.bool x56)) :: an 14 ([]))))
noncomputable def r13_Reached_p2073801 (k : Nat) (N1012 M1012 : Nat) (N129612 M129612 : Nat) (x1 : Int) (x2 : AV) (x5 : AV) (x6 : AV) (x7 : Int) (x8 : AV) (x9 : Int) (x56 : Bool) (h : Hp) : Option (ARes × Hp) := pnt (r13_Reached_c k 2073801) ⟨r13_Reached_T2073801 x1 x2 x5 x6 x7 x8 x9 x56, h⟩ (r13_Reached_K8 k N1012 M1012 N129612 M129612)
def r13_Reached_T4051 (x1 : Int) (x2 : AV) (x5 : AV) (x6 : AV) (x7 : Int) : List AV := an 1 ((.rv (.int .i64 x1)) :: x2 :: an 2 (x5 :: x6 :: (.rv (.int .i64 x7)) :: an 63 ([])))
noncomputable def r13_Reached_p4051 (k : Nat) (N1012 M1012 : Nat) (x1 : Int) (x2 : AV) (x5 : AV) (x6 : AV) (x7 : Int) (h : Hp) : Option (ARes × Hp) := pnt (r13_Reached_c k 4051) ⟨r13_Reached_T4051 x1 x2 x5 x6 x7, h⟩ (r13_Reached_K2 k N1012 M1012)
def r13_Reached_T518451 (x1 : Int) (x2 : AV) (x5 : AV) (x6 : AV) (x7 : Int) (x8 : AV) (x9 : Int) : List AV := an 1 ((.rv (.int .i64 x1)) :: x2 :: an 2 (x5 :: x6 :: (.rv (.int .i64 x7)) :: x8 :: (.rv (.int .i64 x9)) :: an 61 ([])))
noncomputable def r13_Reached_p518451 (k : Nat) (N1012 M1012 : Nat) (N129612 M129612 : Nat) (x1 : Int) (x2 : AV) (x5 : AV) (x6 : AV) (x7 : Int) (x8 : AV) (x9 : Int) (h : Hp) : Option (ARes × Hp) := pnt (r13_Reached_c k 518451) ⟨r13_Reached_T518451 x1 x2 x5 x6 x7 x8 x9, h⟩ (r13_Reached_K6 k N1012 M1012 N129612 M129612)
theorem r13_Reached_l1012_eq (k : Nat) (N1012 M1012 : Nat) (x1 : Int) (x2 : AV) (x5 : AV) (x6 : AV) (x7 : Int) (h : Hp) : r13_Reached_l1012 k (N1012 + 1) M1012 x1 x2 x5 x6 x7 h = lna x6 fun n12 => bsp ((decide (x7 < n12))) (pad x2 3 fun p13 => ldv h p13 fun v14 => ixa 1 x6 x7 fun p15 => ldi .i64 h p15 fun n16 => ixa 6 v14 n16 fun p17 => pad p17 4 fun p18 => ldv h p18 fun v19 => r13_Reached_l129612 k N1012 M1012 k h.length (x1) x2 x5 x6 (x7) v19 (0) (h)) (r13_Reached_p127 k x5 (h)) := nrfl (by kernel_rfl)
theorem r13_Reached_l129612_eq (k : Nat) (N1012 M1012 : Nat) (N129612 M129612 : Nat) (x1 : Int) (x2 : AV) (x5 : AV) (x6 : AV) (x7 : Int) (x8 : AV) (x9 : Int) (h : Hp) : r13_Reached_l129612 k N1012 M1012 (N129612 + 1) M129612 x1 x2 x5 x6 x7 x8 x9 h = lna x8 fun n20 => bsp ((decide (x9 < n20))) (ixa 1 x8 x9 fun p21 => ldi .i64 h p21 fun n22 => bsp ((n22 != x1)) (ixa 1 x8 x9 fun p23 => ldi .i64 h p23 fun n24 => ixa 1 x5 n24 fun p25 => ldb h p25 fun b26 => r13_Reached_p2073801 k N1012 M1012 N129612 M129612 (x1) x2 x5 x6 (x7) x8 (x9) ((!b26)) (h)) (r13_Reached_p2073801 k N1012 M1012 N129612 M129612 (x1) x2 x5 x6 (x7) x8 (x9) (false) (h))) (r13_Reached_p4051 k N1012 M1012 (x1) x2 x5 x6 (x7) (h)) := nrfl (by kernel_rfl)
theorem r13_Reached_p127_eq (k : Nat) (x5 : AV) (h : Hp) : r13_Reached_p127 k x5 h = some (.ret x5, h) := nrfl (by kernel_rfl)
theorem r13_Reached_p2073801_eq (k : Nat) (N1012 M1012 : Nat) (N129612 M129612 : Nat) (x1 : Int) (x2 : AV) (x5 : AV) (x6 : AV) (x7 : Int) (x8 : AV) (x9 : Int) (x56 : Bool) (h : Hp) : r13_Reached_p2073801 k N1012 M1012 N129612 M129612 x1 x2 x5 x6 x7 x8 x9 x56 h = bsp (x56) (ixa 1 x8 x9 fun p27 => ldi .i64 h p27 fun n28 => ixa 1 x5 n28 fun p29 => stv 1 h p29 (.rv (.bool true)) fun h30 => ixa 1 x8 x9 fun p31 => ldi .i64 h30 p31 fun n32 => bsl 1 1 [(.rv (.int .i64 0))] [(some (0, 1), (.rv (.int .i64 n32)))] h30 fun v33 h34 => apn 1 8 h34 x6 v33 fun v35 h36 => r13_Reached_p518451 k N1012 M1012 N129612 M129612 (x1) x2 x5 v35 (x7) x8 (x9) (h36)) (r13_Reached_p518451 k N1012 M1012 N129612 M129612 (x1) x2 x5 x6 (x7) x8 (x9) (h)) := nrfl (by kernel_rfl)
theorem r13_Reached_p4051_eq (k : Nat) (N1012 M1012 : Nat) (x1 : Int) (x2 : AV) (x5 : AV) (x6 : AV) (x7 : Int) (h : Hp) : r13_Reached_p4051 k N1012 M1012 x1 x2 x5 x6 x7 h = r13_Reached_l1012 k N1012 M1012 (x1) x2 x5 x6 ((wri .i64 (x7 + 1))) (h) := nrfl (by kernel_rfl)
theorem r13_Reached_p518451_eq (k : Nat) (N1012 M1012 : Nat) (N129612 M129612 : Nat) (x1 : Int) (x2 : AV) (x5 : AV) (x6 : AV) (x7 : Int) (x8 : AV) (x9 : Int) (h : Hp) : r13_Reached_p518451 k N1012 M1012 N129612 M129612 x1 x2 x5 x6 x7 x8 x9 h = r13_Reached_l129612 k N1012 M1012 N129612 M129612 (x1) x2 x5 x6 (x7) x8 ((wri .i64 (x9 + 1))) (h) := nrfl (by kernel_rfl)
theorem r13_Reached_eq (k : Nat) (x0 : AV) (x1 : Int) (h : Hp) : fnA Try.prog r13_Reached_G r13_Reached_A r13_Reached_R k Try.f17 [x0, (.rv (.int .i64 x1))] h = nwc 1 (vcells x0) h fun p1 h2 => pad p1 3 fun p3 => ldv h2 p3 fun v4 => lna v4 fun n5 => mks 1 1 [(.rv (.bool false))] h2 n5 fun v6 h7 => bsp ((x1 == 0)) (some (.ret v6, h7)) (ixa 1 v6 0 fun p8 => stv 1 h7 p8 (.rv (.bool true)) fun h9 => bsl 1 1 [(.rv (.int .i64 0))] [(some (0, 1), (.rv (.int .i64 0)))] h9 fun v10 h11 => r13_Reached_l1012 k k h11.length (x1) p1 v6 v10 (0) (h11)) := nrfl (by kernel_rfl)
theorem r13_Reached_good : Good Try.prog r13_Reached_G := fun f c hc => by cases hc
noncomputable def F_r13_Reached : List RV → Option Res := fun rs => pureR (fnA Try.prog r13_Reached_G r13_Reached_A r13_Reached_R big Try.f17 (rs.map .rv) [])
theorem good_r13_Reached : GoodC Try.prog 17 (.pure F_r13_Reached) := goodP mixed r13_Reached_good (by kernel_rfl : Try.prog.funcs[17]? = some Try.f17) rfl rfl (fun rs r h => ⟨big, h⟩)

/-! gantry/gantryref13.Flow -/
abbrev id_r13_Flow : FuncId := 11
noncomputable def r13_Flow_G : FuncId → Option Callee := fun f => match f with
  | 12 => some (.pure F_r13_Hole)
  | 17 => some (.pure F_r13_Reached)
  | 38 => some (.pure F_r13_form)
  | 39 => some (.pure F_r13_succs)
  | 40 => some (.pure F_r13_Count)
  | _ => none
def r13_Flow_A : Ann := [(29, [1, 25]), (31, [1]), (127, []), (244, [1, 3]), (979, [1, 3]), (1012, [1, 7, 8]), (16201, [1, 7, 8, 117]), (31311, [1, 3, 4]), (250484, [1, 3, 4, 5]), (250492, [1, 3, 4, 6])]
def r13_Flow_R : List Nat := []
noncomputable def r13_Flow_c (k pos : Nat) : St → Cont (ARes × Hp) → Option (ARes × Hp) := acode Try.prog r13_Flow_G r13_Flow_A r13_Flow_R k (cdAt (pathOf pos) (bodyOf Try.f11)) pos
noncomputable def r13_Flow_K0 (k : Nat) : Cont (ARes × Hp) := seqK (r13_Flow_c k 15) false (clrA r13_Flow_A 15) (finA Try.prog Try.f11)
noncomputable def r13_Flow_K1 (k : Nat) : Cont (ARes × Hp) := seqK (r13_Flow_c k 31) true (clrA r13_Flow_A 31) (finA Try.prog Try.f11)
noncomputable def r13_Flow_K2 (k : Nat) : Cont (ARes × Hp) := blkK 0 (r13_Flow_K1 k)
noncomputable def r13_Flow_K3 (k : Nat) (N244 M244 : Nat) : Cont (ARes × Hp) := itK (aloop (r13_Flow_c k 244) (clrA r13_Flow_A 244) (trimOf r13_Flow_R 244) M244 N244) (clrA r13_Flow_A 244) (trimOf r13_Flow_R 244) M244 (r13_Flow_K2 k)
noncomputable def r13_Flow_K4 (k : Nat) (N244 M244 : Nat) : Cont (ARes × Hp) := seqK (r13_Flow_c k 979) true (clrA r13_Flow_A 979) (r13_Flow_K3 k N244 M244)
noncomputable def r13_Flow_K5 (k : Nat) (N244 M244 : Nat) : Cont (ARes × Hp) := blkK 1 (r13_Flow_K4 k N244 M244)
noncomputable def r13_Flow_K6 (k : Nat) (N244 M244 : Nat) : Cont (ARes × Hp) := seqK (r13_Flow_c k 31311) true (clrA r13_Flow_A 31311) (r13_Flow_K5 k N244 M244)
noncomputable def r13_Flow_K7 (k : Nat) (N244 M244 : Nat) : Cont (ARes × Hp) := blkK 2 (r13_Flow_K6 k N244 M244)
noncomputable def r13_Flow_K8 (k : Nat) : Cont (ARes × Hp) := seqK (r13_Flow_c k 127) true (clrA r13_Flow_A 127) (finA Try.prog Try.f11)
noncomputable def r13_Flow_K9 (k : Nat) : Cont (ARes × Hp) := blkK 6 (r13_Flow_K8 k)
noncomputable def r13_Flow_K10 (k : Nat) (N244 M244 : Nat) : Cont (ARes × Hp) := blkK 4 (r13_Flow_K5 k N244 M244)
noncomputable def r13_Flow_K11 (k : Nat) (N1012 M1012 : Nat) : Cont (ARes × Hp) := itK (aloop (r13_Flow_c k 1012) (clrA r13_Flow_A 1012) (trimOf r13_Flow_R 1012) M1012 N1012) (clrA r13_Flow_A 1012) (trimOf r13_Flow_R 1012) M1012 (r13_Flow_K9 k)
noncomputable def r13_Flow_K12 (k : Nat) (N1012 M1012 : Nat) : Cont (ARes × Hp) := seqK (r13_Flow_c k 4051) false (clrA r13_Flow_A 4051) (r13_Flow_K11 k N1012 M1012)
noncomputable def r13_Flow_K13 (k : Nat) (N1012 M1012 : Nat) : Cont (ARes × Hp) := blkK 7 (r13_Flow_K12 k N1012 M1012)
def r13_Flow_T29 (x1 : AV) (x25 : Bool) : List AV := an 1 (x1 :: an 23 ((.rv (.bool x25)) :: an 92 ([])))
noncomputable def r13_Flow_p29 (k : Nat) (x1 : AV) (x25 : Bool) (h : Hp) : Option (ARes × Hp) := pnt (r13_Flow_c k 29) ⟨r13_Flow_T29 x1 x25, h⟩ (r13_Flow_K0 k)
def r13_Flow_T244 (x1 : AV) (x3 : Int) : List AV := an 1 (x1 :: an 1 ((.rv (.int .i64 x3)) :: an 114 ([])))
noncomputable def r13_Flow_l244 (k : Nat) (N244 M244 : Nat) (x1 : AV) (x3 : Int) (h : Hp) : Option (ARes × Hp) := aloop (r13_Flow_c k 244) (clrA r13_Flow_A 244) (trimOf r13_Flow_R 244) M244 N244 ⟨r13_Flow_T244 x1 x3, h⟩ (r13_Flow_K2 k)
def r13_Flow_T979 (x1 : AV) (x3 : Int) : List AV := an 1 (x1 :: an 1 ((.rv (.int .i64 x3)) :: an 114 ([])))
noncomputable def r13_Flow_p979 (k : Nat) (N244 M244 : Nat) (x1 : AV) (x3 : Int) (h : Hp) : Option (ARes × Hp) := pnt (r13_Flow_c k 979) ⟨r13_Flow_T979 x1 x3, h⟩ (r13_Flow_K3 k N244 M244)
def r13_Flow_T250484 (x1 : AV) (x3 : Int) (x4 : AV) (x5 : Int) : List AV := an 1 (x1 :: an 1 ((.rv (.int .i64 x3)) :: x4 :: (.rv (.int .i64 x5)) :: an 112 ([])))
noncomputable def r13_Flow_l250484 (k : Nat) (N244 M244 : Nat) (N250484 M250484 : Nat) (x1 : AV) (x3 : Int) (x4 : AV) (x5 : Int) (h : Hp) : Option (ARes × Hp) := aloop (r13_Flow_c k 250484) (clrA r13_Flow_A 250484) (trimOf r13_Flow_R 250484) M250484 N250484 ⟨r13_Flow_T250484 x1 x3 x4 x5, h⟩ (r13_Flow_K7 k N244 M244)
def r13_Flow_T31 (x1 : AV) : List AV := an 1 (x1 :: an 116 ([]))
noncomputable def r13_Flow_p31 (k : Nat) (x1 : AV) (h : Hp) : Option (ARes × Hp) := pnt (r13_Flow_c k 31) ⟨r13_Flow_T31 x1, h⟩ (finA Try.prog Try.f11)
def r13_Flow_T31311 (x1 : AV) (x3 : Int) (x4 : AV) : List AV := an 1 (x1 :: an 1 ((.rv (.int .i64 x3)) :: x4 :: an 113 ([])))
noncomputable def r13_Flow_p31311 (k : Nat) (N244 M244 : Nat) (x1 : AV) (x3 : Int) (x4 : AV) (h : Hp) : Option (ARes × Hp) := pnt (r13_Flow_c k 31311) ⟨r13_Flow_T31311 x1 x3 x4, h⟩ (r13_Flow_K5 k N244 M244)
def r13_Flow_T1012 (x1 : AV) (x7 : AV) (x8 : Int) : List AV := an 1 (x1 :: an 5 (x7 :: (.rv (.int .i64 x8)) :: an 109 ([])))
noncomputable def r13_Flow_l1012 (k : Nat) (N1012 M1012 : Nat) (x1 : AV) (x7 : AV) (x8 : Int) (h : Hp) : Option (ARes × Hp) := aloop (r13_Flow_c k 1012) (clrA r13_Flow_A 1012) (trimOf r13_Flow_R 1012) M1012 N1012 ⟨r13_Flow_T1012 x1 x7 x8, h⟩ (r13_Flow_K9 k)
def r13_Flow_T250492 (x1 : AV) (x3 : Int) (x4 : AV) (x6 : Int) : List AV := an 1 (x1 :: an 1 ((.rv (.int .i64 x3)) :: x4 :: an 1 ((.rv (.int .i64 x6)) :: an 111 ([]))))
noncomputable def r13_Flow_l250492 (k : Nat) (N244 M244 : Nat) (N250492 M250492 : Nat) (x1 : AV) (x3 : Int) (x4 : AV) (x6 : Int) (h : Hp) : Option (ARes × Hp) := aloop (r13_Flow_c k 250492) (clrA r13_Flow_A 250492) (trimOf r13_Flow_R 250492) M250492 N250492 ⟨r13_Flow_T250492 x1 x3 x4 x6, h⟩ (r13_Flow_K10 k N244 M244)
def r13_Flow_T16201 (x1 : AV) (x7 : AV) (x8 : Int) (x117 : Bool) : List AV := an 1 (x1 :: an 5 (x7 :: (.rv (.int .i64 x8)) :: an 108 ((.rv (.bool x117)) :: [])))
noncomputable def r13_Flow_p16201 (k : Nat) (N1012 M1012 : Nat) (x1 : AV) (x7 : AV) (x8 : Int) (x117 : Bool) (h : Hp) : Option (ARes × Hp) := pnt (r13_Flow_c k 16201) ⟨r13_Flow_T16201 x1 x7 x8 x117, h⟩ (r13_Flow_K13 k N1012 M1012)
def r13_Flow_T127  : List AV := an 118 ([])
noncomputable def r13_Flow_p127 (k : Nat)  (h : Hp) : Option (ARes × Hp) := pnt (r13_Flow_c k 127) ⟨r13_Flow_T127 , h⟩ (finA Try.prog Try.f11)
theorem r13_Flow_p29_eq (k : Nat) (x1 : AV) (x25 : Bool) (h : Hp) : r13_Flow_p29 k x1 x25 h = bsp (x25) (some (.ret (.rv (.int .i64 131)), h)) (r13_Flow_l244 k k h.length x1 (0) (h)) := nrfl (by kernel_rfl)
theorem r13_Flow_l244_eq (k : Nat) (N244 M244 : Nat) (x1 : AV) (x3 : Int) (h : Hp) : r13_Flow_l244 k (N244 + 1) M244 x1 x3 h = pad x1 3 fun p20 => ldv h p20 fun v21 => lna v21 fun n22 => bsp ((decide (x3 < n22))) (pad x1 3 fun p23 => ldv h p23 fun v24 => ixa 6 v24 x3 fun p25 => ldg 6 h p25 fun v26 => nwc 1 (some [(.rv (.int .i64 0)), (.rv (.int .i64 0)), (.rv .nils), (.rv .nils), (.rv .nils), (.rv .nils)]) h fun p27 h28 => stv 6 h28 p27 v26 fun h29 => ldg 6 h29 p27 fun v30 => callP F_r13_Hole h29 [v30] (fun r31 => asBool r31 fun b33 => bsp (b33) (r13_Flow_p979 k N244 M244 x1 (x3) (h29)) (pad p27 4 fun p34 => ldv h29 p34 fun v35 => lna v35 fun n36 => pad p27 0 fun p37 => ldi .i64 h29 p37 fun n38 => callP F_r13_succs h29 [(.rv (.int .i64 n38))] (fun r39 => asInt .i64 r39 fun n41 => bsp ((n36 != n41)) (some (.ret (.rv (.int .i64 131)), h29)) (r13_Flow_l250484 k N244 M244 k h29.length x1 (x3) p27 (0) (h29))) (fun q40 => none))) (fun q32 => some (.pan q32, h29))) (r13_Flow_p31 k x1 (h)) := nrfl (by kernel_rfl)
theorem r13_Flow_p979_eq (k : Nat) (N244 M244 : Nat) (x1 : AV) (x3 : Int) (h : Hp) : r13_Flow_p979 k N244 M244 x1 x3 h = r13_Flow_l244 k N244 M244 x1 ((wri .i64 (x3 + 1))) (h) := nrfl (by kernel_rfl)
theorem r13_Flow_l250484_eq (k : Nat) (N244 M244 : Nat) (N250484 M250484 : Nat) (x1 : AV) (x3 : Int) (x4 : AV) (x5 : Int) (h : Hp) : r13_Flow_l250484 k N244 M244 (N250484 + 1) M250484 x1 x3 x4 x5 h = pad x4 4 fun p42 => ldv h p42 fun v43 => lna v43 fun n44 => bsp ((decide (x5 < n44))) (pad x1 3 fun p45 => ldv h p45 fun v46 => pad x4 4 fun p47 => ldv h p47 fun v48 => ixa 1 v48 x5 fun p49 => ldi .i64 h p49 fun n50 => ixa 6 v46 n50 fun p51 => pad p51 3 fun p52 => ldv h p52 fun v53 => callP F_r13_Count h [v53, (.rv (.int .i64 x3))] (fun r54 => asInt .i64 r54 fun n56 => pad x4 4 fun p57 => ldv h p57 fun v58 => pad x4 4 fun p59 => ldv h p59 fun v60 => ixa 1 v60 x5 fun p61 => ldi .i64 h p61 fun n62 => callP F_r13_Count h [v58, (.rv (.int .i64 n62))] (fun r63 => asInt .i64 r63 fun n65 => bsp ((n56 != n65)) (some (.ret (.rv (.int .i64 131)), h)) (r13_Flow_l250484 k N244 M244 N250484 M250484 x1 (x3) x4 ((wri .i64 (x5 + 1))) (h))) (fun q64 => none)) (fun q55 => none)) (r13_Flow_p31311 k N244 M244 x1 (x3) x4 (h)) := nrfl (by kernel_rfl)
theorem r13_Flow_p31_eq (k : Nat) (x1 : AV) (h : Hp) : r13_Flow_p31 k x1 h = ldg 4 h x1 fun v66 => callP F_r13_Reached h [v66, (.rv (.int .i64 (-1)))] (fun r67 => r13_Flow_l1012 k k h.length x1 r67 (0) (h)) (fun q68 => some (.pan q68, h)) := nrfl (by kernel_rfl)
theorem r13_Flow_p31311_eq (k : Nat) (N244 M244 : Nat) (x1 : AV) (x3 : Int) (x4 : AV) (h : Hp) : r13_Flow_p31311 k N244 M244 x1 x3 x4 h = r13_Flow_l250492 k N244 M244 k h.length x1 (x3) x4 (0) (h) := nrfl (by kernel_rfl)
theorem r13_Flow_l1012_eq (k : Nat) (N1012 M1012 : Nat) (x1 : AV) (x7 : AV) (x8 : Int) (h : Hp) : r13_Flow_l1012 k (N1012 + 1) M1012 x1 x7 x8 h = pad x1 3 fun p69 => ldv h p69 fun v70 => lna v70 fun n71 => bsp ((decide (x8 < n71))) (pad x1 3 fun p72 => ldv h p72 fun v73 => ixa 6 v73 x8 fun p74 => ldg 6 h p74 fun v75 => callP F_r13_Hole h [v75] (fun r76 => asBool r76 fun b78 => bsp ((!b78)) (ixa 1 x7 x8 fun p79 => ldb h p79 fun b80 => r13_Flow_p16201 k N1012 M1012 x1 x7 (x8) ((!b80)) (h)) (r13_Flow_p16201 k N1012 M1012 x1 x7 (x8) (false) (h))) (fun q77 => some (.pan q77, h))) (r13_Flow_p127 k  (h)) := nrfl (by kernel_rfl)
theorem r13_Flow_l250492_eq (k : Nat) (N244 M244 : Nat) (N250492 M250492 : Nat) (x1 : AV) (x3 : Int) (x4 : AV) (x6 : Int) (h : Hp) : r13_Flow_l250492 k N244 M244 (N250492 + 1) M250492 x1 x3 x4 x6 h = pad x4 3 fun p81 => ldv h p81 fun v82 => lna v82 fun n83 => bsp ((decide (x6 < n83))) (pad x1 3 fun p84 => ldv h p84 fun v85 => pad x4 3 fun p86 => ldv h p86 fun v87 => ixa 1 v87 x6 fun p88 => ldi .i64 h p88 fun n89 => ixa 6 v85 n89 fun p90 => pad p90 4 fun p91 => ldv h p91 fun v92 => callP F_r13_Count h [v92, (.rv (.int .i64 x3))] (fun r93 => asInt .i64 r93 fun n95 => bsp ((n95 == 0)) (some (.ret (.rv (.int .i64 131)), h)) (r13_Flow_l250492 k N244 M244 N250492 M250492 x1 (x3) x4 ((wri .i64 (x6 + 1))) (h))) (fun q94 => none)) (r13_Flow_p979 k N244 M244 x1 (x3) (h)) := nrfl (by kernel_rfl)
theorem r13_Flow_p16201_eq (k : Nat) (N1012 M1012 : Nat) (x1 : AV) (x7 : AV) (x8 : Int) (x117 : Bool) (h : Hp) : r13_Flow_p16201 k N1012 M1012 x1 x7 x8 x117 h = bsp (x117) (some (.ret (.rv (.int .i64 131)), h)) (r13_Flow_l1012 k N1012 M1012 x1 x7 ((wri .i64 (x8 + 1))) (h)) := nrfl (by kernel_rfl)
theorem r13_Flow_p127_eq (k : Nat)  (h : Hp) : r13_Flow_p127 k  h = some (.ret (.rv (.int .i64 0)), h) := nrfl (by kernel_rfl)
theorem r13_Flow_eq (k : Nat) (x0 : AV) (h : Hp) : fnA Try.prog r13_Flow_G r13_Flow_A r13_Flow_R k Try.f11 [x0] h = nwc 1 (vcells x0) h fun p1 h2 => ldg 4 h2 p1 fun v3 => callP F_r13_form h2 [v3] (fun r4 => asBool r4 fun b6 => bsp ((!b6)) (some (.ret (.rv (.int .i64 130)), h2)) (pad p1 3 fun p7 => ldv h2 p7 fun v8 => ixa 6 v8 0 fun p9 => ldg 6 h2 p9 fun v10 => callP F_r13_Hole h2 [v10] (fun r11 => asBool r11 fun b13 => bsp (b13) (r13_Flow_p29 k p1 (true) (h2)) (pad p1 3 fun p14 => ldv h2 p14 fun v15 => ixa 6 v15 0 fun p16 => pad p16 3 fun p17 => ldv h2 p17 fun v18 => lna v18 fun n19 => r13_Flow_p29 k p1 ((decide (n19 > 0))) (h2))) (fun q12 => some (.pan q12, h2)))) (fun q5 => some (.pan q5, h2)) := nrfl (by kernel_rfl)
theorem r13_Flow_good : Good Try.prog r13_Flow_G := by
  intro f c hc
  unfold r13_Flow_G at hc
  split at hc
  · cases hc; exact good_r13_Hole
  · cases hc; exact good_r13_Reached
  · cases hc; exact good_r13_form
  · cases hc; exact good_r13_succs
  · cases hc; exact good_r13_Count
  · cases hc
noncomputable def F_r13_Flow : List RV → Option Res := fun rs => pureR (fnA Try.prog r13_Flow_G r13_Flow_A r13_Flow_R big Try.f11 (rs.map .rv) [])
theorem good_r13_Flow : GoodC Try.prog 11 (.pure F_r13_Flow) := goodP mixed r13_Flow_good (by kernel_rfl : Try.prog.funcs[11]? = some Try.f11) rfl rfl (fun rs r h => ⟨big, h⟩)

/-! gantry/gantrylaw13.reaches -/
abbrev id_w13_reaches : FuncId := 13
noncomputable def w13_reaches_G : FuncId → Option Callee := fun f => match f with
  | _ => none
def w13_reaches_A : Ann := [(63, [2, 7]), (500, [2, 3, 7, 8, 9]), (2003, [2, 3, 7, 8, 9]), (64076, [2, 3, 7, 8, 9, 10, 11]), (256307, [2, 3, 7, 8, 9, 10, 11])]
def w13_reaches_R : List Nat := []
noncomputable def w13_reaches_c (k pos : Nat) : St → Cont (ARes × Hp) → Option (ARes × Hp) := acode Try.prog w13_reaches_G w13_reaches_A w13_reaches_R k (cdAt (pathOf pos) (bodyOf Try.f13)) pos
noncomputable def w13_reaches_K0 (k : Nat) : Cont (ARes × Hp) := seqK (w13_reaches_c k 63) true (clrA w13_reaches_A 63) (finA Try.prog Try.f13)
noncomputable def w13_reaches_K1 (k : Nat) : Cont (ARes × Hp) := blkK 0 (w13_reaches_K0 k)
noncomputable def w13_reaches_K2 (k : Nat) (N500 M500 : Nat) : Cont (ARes × Hp) := itK (aloop (w13_reaches_c k 500) (clrA w13_reaches_A 500) (trimOf w13_reaches_R 500) M500 N500) (clrA w13_reaches_A 500) (trimOf w13_reaches_R 500) M500 (w13_reaches_K1 k)
noncomputable def w13_reaches_K3 (k : Nat) (N500 M500 : Nat) : Cont (ARes × Hp) := seqK (w13_reaches_c k 2003) true (clrA w13_reaches_A 2003) (w13_reaches_K2 k N500 M500)
noncomputable def w13_reaches_K4 (k : Nat) (N500 M500 : Nat) : Cont (ARes × Hp) := blkK 1 (w13_reaches_K3 k N500 M500)
noncomputable def w13_reaches_K5 (k : Nat) (N500 M500 : Nat) : Cont (ARes × Hp) := blkK 2 (w13_reaches_K4 k N500 M500)
noncomputable def w13_reaches_K6 (k : Nat) (N500 M500 : Nat) (N64076 M64076 : Nat) : Cont (ARes × Hp) := itK (aloop (w13_reaches_c k 64076) (clrA w13_reaches_A 64076) (trimOf w13_reaches_R 64076) M64076 N64076) (clrA w13_reaches_A 64076) (trimOf w13_reaches_R 64076) M64076 (w13_reaches_K5 k N500 M500)
def w13_reaches_T500 (x2 : Int) (x3 : AV) (x7 : AV) (x8 : AV) (x9 : Int) : List AV := an 2 ((.rv (.int .i64 x2)) :: x3 :: an 3 (x7 :: x8 :: (.rv (.int .i64 x9)) :: an 57 ([])))
noncomputable def w13_reaches_l500 (k : Nat) (N500 M500 : Nat) (x2 : Int) (x3 : AV) (x7 : AV) (x8 : AV) (x9 : Int) (h : Hp) : Option (ARes × Hp) := aloop (w13_reaches_c k 500) (clrA w13_reaches_A 500) (trimOf w13_reaches_R 500) M500 N500 ⟨w13_reaches_T500 x2 x3 x7 x8 x9, h⟩ (w13_reaches_K1 k)
def w13_reaches_T64076 (x2 : Int) (x3 : AV) (x7 : AV) (x8 : AV) (x9 : Int) (x10 : AV) (x11 : Int) : List AV := an 2 ((.rv (.int .i64 x2)) :: x3 :: an 3 (x7 :: x8 :: (.rv (.int .i64 x9)) :: x10 :: (.rv (.int .i64 x11)) :: an 55 ([])))
noncomputable def w13_reaches_l64076 (k : Nat) (N500 M500 : Nat) (N64076 M64076 : Nat) (x2 : Int) (x3 : AV) (x7 : AV) (x8 : AV) (x9 : Int) (x10 : AV) (x11 : Int) (h : Hp) : Option (ARes × Hp) := aloop (w13_reaches_c k 64076) (clrA w13_reaches_A 64076) (trimOf w13_reaches_R 64076) M64076 N64076 ⟨w13_reaches_T64076 x2 x3 x7 x8 x9 x10 x11, h⟩ (w13_reaches_K5 k N500 M500)
def w13_reaches_T63 (x2 : Int) (x7 : AV) : List AV := an 2 ((.rv (.int .i64 x2)) :: an 4 (x7 :: an 59 ([])))
noncomputable def w13_reaches_p63 (k : Nat) (x2 : Int) (x7 : AV) (h : Hp) : Option (ARes × Hp) := pnt (w13_reaches_c k 63) ⟨w13_reaches_T63 x2 x7, h⟩ (finA Try.prog Try.f13)
def w13_reaches_T256307 (x2 : Int) (x3 : AV) (x7 : AV) (x8 : AV) (x9 : Int) (x10 : AV) (x11 : Int) : List AV := an 2 ((.rv (.int .i64 x2)) :: x3 :: an 3 (x7 :: x8 :: (.rv (.int .i64 x9)) :: x10 :: (.rv (.int .i64 x11)) :: an 55 ([])))
noncomputable def w13_reaches_p256307 (k : Nat) (N500 M500 : Nat) (N64076 M64076 : Nat) (x2 : Int) (x3 : AV) (x7 : AV) (x8 : AV) (x9 : Int) (x10 : AV) (x11 : Int) (h : Hp) : Option (ARes × Hp) := pnt (w13_reaches_c k 256307) ⟨w13_reaches_T256307 x2 x3 x7 x8 x9 x10 x11, h⟩ (w13_reaches_K6 k N500 M500 N64076 M64076)
def w13_reaches_T2003 (x2 : Int) (x3 : AV) (x7 : AV) (x8 : AV) (x9 : Int) : List AV := an 2 ((.rv (.int .i64 x2)) :: x3 :: an 3 (x7 :: x8 :: (.rv (.int .i64 x9)) :: an 57 ([])))
noncomputable def w13_reaches_p2003 (k : Nat) (N500 M500 : Nat) (x2 : Int) (x3 : AV) (x7 : AV) (x8 : AV) (x9 : Int) (h : Hp) : Option (ARes × Hp) := pnt (w13_reaches_c k 2003) ⟨w13_reaches_T2003 x2 x3 x7 x8 x9, h⟩ (w13_reaches_K2 k N500 M500)
theorem w13_reaches_l500_eq (k : Nat) (N500 M500 : Nat) (x2 : Int) (x3 : AV) (x7 : AV) (x8 : AV) (x9 : Int) (h : Hp) : w13_reaches_l500 k (N500 + 1) M500 x2 x3 x7 x8 x9 h = lna x8 fun n12 => bsp ((decide (x9 < n12))) (pad x3 3 fun p13 => ldv h p13 fun v14 => ixa 1 x8 x9 fun p15 => ldi .i64 h p15 fun n16 => ixa 6 v14 n16 fun p17 => pad p17 4 fun p18 => ldv h p18 fun v19 => w13_reaches_l64076 k N500 M500 k h.length (x2) x3 x7 x8 (x9) v19 (0) (h)) (w13_reaches_p63 k (x2) x7 (h)) := nrfl (by kernel_rfl)
theorem w13_reaches_l64076_eq (k : Nat) (N500 M500 : Nat) (N64076 M64076 : Nat) (x2 : Int) (x3 : AV) (x7 : AV) (x8 : AV) (x9 : Int) (x10 : AV) (x11 : Int) (h : Hp) : w13_reaches_l64076 k N500 M500 (N64076 + 1) M64076 x2 x3 x7 x8 x9 x10 x11 h = lna x10 fun n20 => bsp ((decide (x11 < n20))) (ixa 1 x10 x11 fun p21 => ldi .i64 h p21 fun n22 => ixa 1 x7 n22 fun p23 => ldb h p23 fun b24 => bsp ((!b24)) (ixa 1 x10 x11 fun p25 => ldi .i64 h p25 fun n26 => ixa 1 x7 n26 fun p27 => stv 1 h p27 (.rv (.bool true)) fun h28 => ixa 1 x10 x11 fun p29 => ldi .i64 h28 p29 fun n30 => bsl 1 1 [(.rv (.int .i64 0))] [(some (0, 1), (.rv (.int .i64 n30)))] h28 fun v31 h32 => apn 1 8 h32 x8 v31 fun v33 h34 => w13_reaches_p256307 k N500 M500 N64076 M64076 (x2) x3 x7 v33 (x9) x10 (x11) (h34)) (w13_reaches_p256307 k N500 M500 N64076 M64076 (x2) x3 x7 x8 (x9) x10 (x11) (h))) (w13_reaches_p2003 k N500 M500 (x2) x3 x7 x8 (x9) (h)) := nrfl (by kernel_rfl)
theorem w13_reaches_p63_eq (k : Nat) (x2 : Int) (x7 : AV) (h : Hp) : w13_reaches_p63 k x2 x7 h = ixa 1 x7 x2 fun p35 => ldb h p35 fun b36 => some (.ret (.rv (.bool b36)), h) := nrfl (by kernel_rfl)
theorem w13_reaches_p256307_eq (k : Nat) (N500 M500 : Nat) (N64076 M64076 : Nat) (x2 : Int) (x3 : AV) (x7 : AV) (x8 : AV) (x9 : Int) (x10 : AV) (x11 : Int) (h : Hp) : w13_reaches_p256307 k N500 M500 N64076 M64076 x2 x3 x7 x8 x9 x10 x11 h = w13_reaches_l64076 k N500 M500 N64076 M64076 (x2) x3 x7 x8 (x9) x10 ((wri .i64 (x11 + 1))) (h) := nrfl (by kernel_rfl)
theorem w13_reaches_p2003_eq (k : Nat) (N500 M500 : Nat) (x2 : Int) (x3 : AV) (x7 : AV) (x8 : AV) (x9 : Int) (h : Hp) : w13_reaches_p2003 k N500 M500 x2 x3 x7 x8 x9 h = w13_reaches_l500 k N500 M500 (x2) x3 x7 x8 ((wri .i64 (x9 + 1))) (h) := nrfl (by kernel_rfl)
theorem w13_reaches_eq (k : Nat) (x0 : AV) (x1 : Int) (x2 : Int) (h : Hp) : fnA Try.prog w13_reaches_G w13_reaches_A w13_reaches_R k Try.f13 [x0, (.rv (.int .i64 x1)), (.rv (.int .i64 x2))] h = nwc 1 (vcells x0) h fun p1 h2 => pad p1 3 fun p3 => ldv h2 p3 fun v4 => lna v4 fun n5 => mks 1 1 [(.rv (.bool false))] h2 n5 fun v6 h7 => ixa 1 v6 x1 fun p8 => stv 1 h7 p8 (.rv (.bool true)) fun h9 => bsl 1 1 [(.rv (.int .i64 0))] [(some (0, 1), (.rv (.int .i64 x1)))] h9 fun v10 h11 => w13_reaches_l500 k k h11.length (x2) p1 v6 v10 (0) (h11) := nrfl (by kernel_rfl)
theorem w13_reaches_good : Good Try.prog w13_reaches_G := fun f c hc => by cases hc
noncomputable def F_w13_reaches : List RV → Option Res := fun rs => pureR (fnA Try.prog w13_reaches_G w13_reaches_A w13_reaches_R big Try.f13 (rs.map .rv) [])
theorem good_w13_reaches : GoodC Try.prog 13 (.pure F_w13_reaches) := goodP mixed w13_reaches_good (by kernel_rfl : Try.prog.funcs[13]? = some Try.f13) rfl rfl (fun rs r h => ⟨big, h⟩)

/-! gantry/gantryref0.EqNumbers -/
abbrev id_r0_EqNumbers : FuncId := 20
noncomputable def r0_EqNumbers_G : FuncId → Option Callee := fun f => match f with
  | _ => none
def r0_EqNumbers_A : Ann := [(15, []), (116, [0, 1, 5])]
def r0_EqNumbers_R : List Nat := []
noncomputable def r0_EqNumbers_c (k pos : Nat) : St → Cont (ARes × Hp) → Option (ARes × Hp) := acode Try.prog r0_EqNumbers_G r0_EqNumbers_A r0_EqNumbers_R k (cdAt (pathOf pos) (bodyOf Try.f20)) pos
noncomputable def r0_EqNumbers_K0 (k : Nat) : Cont (ARes × Hp) := seqK (r0_EqNumbers_c k 15) true (clrA r0_EqNumbers_A 15) (finA Try.prog Try.f20)
noncomputable def r0_EqNumbers_K1 (k : Nat) : Cont (ARes × Hp) := blkK 0 (r0_EqNumbers_K0 k)
def r0_EqNumbers_T116 (x0 : AV) (x1 : AV) (x5 : Int) : List AV := x0 :: x1 :: an 3 ((.rv (.int .i64 x5)) :: an 20 ([]))
noncomputable def r0_EqNumbers_l116 (k : Nat) (N116 M116 : Nat) (x0 : AV) (x1 : AV) (x5 : Int) (h : Hp) : Option (ARes × Hp) := aloop (r0_EqNumbers_c k 116) (clrA r0_EqNumbers_A 116) (trimOf r0_EqNumbers_R 116) M116 N116 ⟨r0_EqNumbers_T116 x0 x1 x5, h⟩ (r0_EqNumbers_K1 k)
def r0_EqNumbers_T15  : List AV := an 26 ([])
noncomputable def r0_EqNumbers_p15 (k : Nat)  (h : Hp) : Option (ARes × Hp) := pnt (r0_EqNumbers_c k 15) ⟨r0_EqNumbers_T15 , h⟩ (finA Try.prog Try.f20)
theorem r0_EqNumbers_l116_eq (k : Nat) (N116 M116 : Nat) (x0 : AV) (x1 : AV) (x5 : Int) (h : Hp) : r0_EqNumbers_l116 k (N116 + 1) M116 x0 x1 x5 h = lna x0 fun n3 => bsp ((decide (x5 < n3))) (ixa 1 x0 x5 fun p4 => ldi .i64 h p4 fun n5 => ixa 1 x1 x5 fun p6 => ldi .i64 h p6 fun n7 => bsp ((n5 != n7)) (some (.ret (.rv (.bool false)), h)) (r0_EqNumbers_l116 k N116 M116 x0 x1 ((wri .i64 (x5 + 1))) (h))) (r0_EqNumbers_p15 k  (h)) := nrfl (by kernel_rfl)
theorem r0_EqNumbers_p15_eq (k : Nat)  (h : Hp) : r0_EqNumbers_p15 k  h = some (.ret (.rv (.bool true)), h) := nrfl (by kernel_rfl)
theorem r0_EqNumbers_eq (k : Nat) (x0 : AV) (x1 : AV) (h : Hp) : fnA Try.prog r0_EqNumbers_G r0_EqNumbers_A r0_EqNumbers_R k Try.f20 [x0, x1] h = lna x0 fun n1 => lna x1 fun n2 => bsp ((n1 != n2)) (some (.ret (.rv (.bool false)), h)) (r0_EqNumbers_l116 k k h.length x0 x1 (0) (h)) := nrfl (by kernel_rfl)
theorem r0_EqNumbers_good : Good Try.prog r0_EqNumbers_G := fun f c hc => by cases hc
noncomputable def F_r0_EqNumbers : List RV → Option Res := fun rs => pureR (fnA Try.prog r0_EqNumbers_G r0_EqNumbers_A r0_EqNumbers_R big Try.f20 (rs.map .rv) [])
theorem good_r0_EqNumbers : GoodC Try.prog 20 (.pure F_r0_EqNumbers) := goodP mixed r0_EqNumbers_good (by kernel_rfl : Try.prog.funcs[20]? = some Try.f20) rfl rfl (fun rs r h => ⟨big, h⟩)

/-! gantry/gantrylaw12.Small -/
abbrev id_w12_Small : FuncId := 41
noncomputable def w12_Small_G : FuncId → Option Callee := fun f => match f with
  | _ => none
def w12_Small_A : Ann := []
def w12_Small_R : List Nat := []
noncomputable def w12_Small_c (k pos : Nat) : St → Cont (ARes × Hp) → Option (ARes × Hp) := acode Try.prog w12_Small_G w12_Small_A w12_Small_R k (cdAt (pathOf pos) (bodyOf Try.f41)) pos
theorem w12_Small_eq (k : Nat) (x0 : Int) (h : Hp) : fnA Try.prog w12_Small_G w12_Small_A w12_Small_R k Try.f41 [(.rv (.int .i64 x0))] h = nwc 1 (some [(.rv .nils), (.rv .nils)]) h fun p1 h2 => bsl 1 1 [(.rv (.int .i64 0))] [(some (0, 1), (.rv (.int .i64 5)))] h2 fun v3 h4 => bld [(.rv (.int .i64 0)), (.rv (.int .i64 0)), (.rv .nils), (.rv (.int .i64 0)), (.rv (.int .i64 0))] [(some (0, 1), (.rv (.int .i64 9))), (some (1, 1), (.rv (.int .i64 12)))] fun v5 => bld [(.rv (.int .i64 0)), (.rv (.int .i64 0)), (.rv .nils), (.rv (.int .i64 0)), (.rv (.int .i64 0))] [(some (0, 1), (.rv (.int .i64 1))), (some (1, 1), (.rv (.int .i64 5))), (some (3, 1), (.rv (.int .i64 x0)))] fun v6 => bsl 5 2 [(.rv (.int .i64 0)), (.rv (.int .i64 0)), (.rv .nils), (.rv (.int .i64 0)), (.rv (.int .i64 0))] [(some (0, 5), v5), (some (5, 5), v6)] h4 fun v7 h8 => bsl 1 2 [(.rv (.int .i64 0))] [(some (0, 1), (.rv (.int .i64 1))), (some (1, 1), (.rv (.int .i64 0)))] h8 fun v9 h10 => bsl 1 2 [(.rv (.int .i64 0))] [(some (0, 1), (.rv (.int .i64 0))), (some (1, 1), (.rv (.int .i64 1)))] h10 fun v11 h12 => bld [(.rv (.int .i64 0)), (.rv (.int .i64 0)), (.rv .nils), (.rv .nils), (.rv .nils), (.rv .nils)] [(some (0, 1), (.rv (.int .i64 3))), (some (2, 1), v9), (some (5, 1), v11)] fun v13 => bsl 6 1 [(.rv (.int .i64 0)), (.rv (.int .i64 0)), (.rv .nils), (.rv .nils), (.rv .nils), (.rv .nils)] [(some (0, 6), v13)] h12 fun v14 h15 => bld [(.rv .nils), (.rv .nils), (.rv .nils), (.rv .nils)] [(some (1, 1), v3), (some (2, 1), v7), (some (3, 1), v14)] fun v16 => bsl 4 1 [(.rv .nils), (.rv .nils), (.rv .nils), (.rv .nils)] [(some (0, 4), v16)] h15 fun v17 h18 => bld [(.rv .nils), (.rv .nils)] [(some (0, 1), v17)] fun v19 => stv 2 h18 p1 v19 fun h20 => finR (((cellsN h20 p1 0 2).map .agg)) h20 := nrfl (by kernel_rfl)
theorem w12_Small_good : Good Try.prog w12_Small_G := fun f c hc => by cases hc
noncomputable def F_w12_Small : List RV → Option Res := fun rs => pureR (fnA Try.prog w12_Small_G w12_Small_A w12_Small_R big Try.f41 (rs.map .rv) [])
theorem good_w12_Small : GoodC Try.prog 41 (.pure F_w12_Small) := goodP mixed w12_Small_good (by kernel_rfl : Try.prog.funcs[41]? = some Try.f41) rfl rfl (fun rs r h => ⟨big, h⟩)
end Go.Proofs.Ytknphnmhjmejaaa
