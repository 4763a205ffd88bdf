/- Joined texts: E2. No conditions but those of each. -/
import Derived.Test.YtknphnmhjmejaaaJ13
/- The places and the unfolding equations of these functions (printed by gen.py of this repo): no conditions. -/
namespace Go.Proofs.Ytknphnmhjmejaaa
set_option linter.unusedVariables false
set_option maxRecDepth 100000

/-! gantry/gantryref0.In -/
abbrev id_r0_In : FuncId := 28
noncomputable def r0_In_G : FuncId → Option Callee := fun f => match f with
  | _ => none
def r0_In_A : Ann := [(7, []), (52, [0, 1, 5])]
def r0_In_R : List Nat := []
noncomputable def r0_In_c (k pos : Nat) : St → Cont (ARes × Hp) → Option (ARes × Hp) := acode Try.prog r0_In_G r0_In_A r0_In_R k (cdAt (pathOf pos) (bodyOf Try.f28)) pos
def r0_In_T52 (x0 : AV) (x1 : Int) (x5 : Int) : List AV := x0 :: (.rv (.int .i64 x1)) :: an 3 ((.rv (.int .i64 x5)) :: an 12 ([]))
def r0_In_T7  : List AV := an 18 ([])
noncomputable def r0_In_K0 (k : Nat) : Cont (ARes × Hp) := seqK (r0_In_c k 7) true (clrA r0_In_A 7) (finA Try.prog Try.f28)
noncomputable def r0_In_K1 (k : Nat) : Cont (ARes × Hp) := blkK 0 (r0_In_K0 k)
noncomputable def r0_In_l52 (k : Nat) (N52 M52 : Nat) (x0 : AV) (x1 : Int) (x5 : Int) (h : Hp) : Option (ARes × Hp) := aloop (r0_In_c k 52) (clrA r0_In_A 52) (trimOf r0_In_R 52) M52 N52 ⟨r0_In_T52 x0 x1 x5, h⟩ (r0_In_K1 k)
noncomputable def r0_In_p7 (k : Nat)  (h : Hp) : Option (ARes × Hp) := pnt (r0_In_c k 7) ⟨r0_In_T7 , h⟩ (finA Try.prog Try.f28)
theorem r0_In_l52_eq (k : Nat) (N52 M52 : Nat) (x0 : AV) (x1 : Int) (x5 : Int) (h : Hp) : r0_In_l52 k (N52 + 1) M52 x0 x1 x5 h = lna x0 fun n1 => bsp ((decide (x5 < n1))) (ixa 1 x0 x5 fun p2 => ldi .i64 h p2 fun n3 => bsp ((n3 == x1)) (some (.ret (.rv (.bool true)), h)) (r0_In_l52 k N52 M52 x0 (x1) ((wri .i64 (x5 + 1))) (h))) (r0_In_p7 k  (h)) := nrfl (by kernel_rfl)
theorem r0_In_p7_eq (k : Nat)  (h : Hp) : r0_In_p7 k  h = some (.ret (.rv (.bool false)), h) := nrfl (by kernel_rfl)
theorem r0_In_eq (k : Nat) (x0 : AV) (x1 : Int) (h : Hp) : fnA Try.prog r0_In_G r0_In_A r0_In_R k Try.f28 [x0, (.rv (.int .i64 x1))] h = r0_In_l52 k k h.length x0 (x1) (0) (h) := nrfl (by kernel_rfl)
theorem r0_In_good : Good Try.prog r0_In_G := fun f c hc => by cases hc
noncomputable def F_r0_In : List RV → Option Res := fun rs => pureR (fnA Try.prog r0_In_G r0_In_A r0_In_R big Try.f28 (rs.map .rv) [])
theorem good_r0_In : GoodC Try.prog 28 (.pure F_r0_In) := goodP mixed r0_In_good (by kernel_rfl : Try.prog.funcs[28]? = some Try.f28) rfl rfl (fun rs r h => ⟨big, h⟩)

/-! gantry/gantryref13.Dominates -/
abbrev id_r13_Dominates : FuncId := 29
noncomputable def r13_Dominates_G : FuncId → Option Callee := fun f => match f with
  | _ => none
def r13_Dominates_A : Ann := [(7, []), (24, [0, 1, 2])]
def r13_Dominates_R : List Nat := []
noncomputable def r13_Dominates_c (k pos : Nat) : St → Cont (ARes × Hp) → Option (ARes × Hp) := acode Try.prog r13_Dominates_G r13_Dominates_A r13_Dominates_R k (cdAt (pathOf pos) (bodyOf Try.f29)) pos
def r13_Dominates_T24 (x0 : AV) (x1 : Int) (x2 : Int) : List AV := x0 :: (.rv (.int .i64 x1)) :: (.rv (.int .i64 x2)) :: an 13 ([])
def r13_Dominates_T7  : List AV := an 16 ([])
noncomputable def r13_Dominates_K0 (k : Nat) : Cont (ARes × Hp) := seqK (r13_Dominates_c k 7) true (clrA r13_Dominates_A 7) (finA Try.prog Try.f29)
noncomputable def r13_Dominates_K1 (k : Nat) : Cont (ARes × Hp) := blkK 0 (r13_Dominates_K0 k)
noncomputable def r13_Dominates_l24 (k : Nat) (N24 M24 : Nat) (x0 : AV) (x1 : Int) (x2 : Int) (h : Hp) : Option (ARes × Hp) := aloop (r13_Dominates_c k 24) (clrA r13_Dominates_A 24) (trimOf r13_Dominates_R 24) M24 N24 ⟨r13_Dominates_T24 x0 x1 x2, h⟩ (r13_Dominates_K1 k)
noncomputable def r13_Dominates_p7 (k : Nat)  (h : Hp) : Option (ARes × Hp) := pnt (r13_Dominates_c k 7) ⟨r13_Dominates_T7 , h⟩ (finA Try.prog Try.f29)
theorem r13_Dominates_l24_eq (k : Nat) (N24 M24 : Nat) (x0 : AV) (x1 : Int) (x2 : Int) (h : Hp) : r13_Dominates_l24 k (N24 + 1) M24 x0 x1 x2 h = bsp ((decide (x2 ≥ 0))) (bsp ((x2 == x1)) (some (.ret (.rv (.bool true)), h)) (ixa 1 x0 x2 fun p1 => ldi .i64 h p1 fun n2 => r13_Dominates_l24 k N24 M24 x0 (x1) (n2) (h))) (r13_Dominates_p7 k  (h)) := nrfl (by kernel_rfl)
theorem r13_Dominates_p7_eq (k : Nat)  (h : Hp) : r13_Dominates_p7 k  h = some (.ret (.rv (.bool false)), h) := nrfl (by kernel_rfl)
theorem r13_Dominates_eq (k : Nat) (x0 : AV) (x1 : Int) (x2 : Int) (h : Hp) : fnA Try.prog r13_Dominates_G r13_Dominates_A r13_Dominates_R k Try.f29 [x0, (.rv (.int .i64 x1)), (.rv (.int .i64 x2))] h = r13_Dominates_l24 k k h.length x0 (x1) (x2) (h) := nrfl (by kernel_rfl)
theorem r13_Dominates_good : Good Try.prog r13_Dominates_G := fun f c hc => by cases hc
noncomputable def F_r13_Dominates : List RV → Option Res := fun rs => pureR (fnA Try.prog r13_Dominates_G r13_Dominates_A r13_Dominates_R big Try.f29 (rs.map .rv) [])
theorem good_r13_Dominates : GoodC Try.prog 29 (.pure F_r13_Dominates) := goodP mixed r13_Dominates_good (by kernel_rfl : Try.prog.funcs[29]? = some Try.f29) rfl rfl (fun rs r h => ⟨big, h⟩)

/-! gantry/gantrylaw13.rises -/
abbrev id_w13_rises : FuncId := 26
noncomputable def w13_rises_G : FuncId → Option Callee := fun f => match f with
  | 16 => some (.pure F_w13_ups)
  | _ => none
def w13_rises_A : Ann := [(13, [0, 18]), (15, []), (116, [0, 5]), (467, [0, 5]), (14924, [0, 5, 6, 7])]
def w13_rises_R : List Nat := []
noncomputable def w13_rises_c (k pos : Nat) : St → Cont (ARes × Hp) → Option (ARes × Hp) := acode Try.prog w13_rises_G w13_rises_A w13_rises_R k (cdAt (pathOf pos) (bodyOf Try.f26)) pos
def w13_rises_T13 (x0 : AV) (x18 : Bool) : List AV := x0 :: an 17 ((.rv (.bool x18)) :: an 19 ([]))
def w13_rises_T116 (x0 : AV) (x5 : Int) : List AV := x0 :: an 4 ((.rv (.int .i64 x5)) :: an 32 ([]))
def w13_rises_T14924 (x0 : AV) (x5 : Int) (x6 : Int) (x7 : Int) : List AV := x0 :: an 4 ((.rv (.int .i64 x5)) :: (.rv (.int .i64 x6)) :: (.rv (.int .i64 x7)) :: an 30 ([]))
def w13_rises_T15  : List AV := an 38 ([])
def w13_rises_T467 (x0 : AV) (x5 : Int) : List AV := x0 :: an 4 ((.rv (.int .i64 x5)) :: an 32 ([]))
noncomputable def w13_rises_K0 (k : Nat) : Cont (ARes × Hp) := seqK (w13_rises_c k 7) false (clrA w13_rises_A 7) (finA Try.prog Try.f26)
noncomputable def w13_rises_K1 (k : Nat) : Cont (ARes × Hp) := seqK (w13_rises_c k 15) true (clrA w13_rises_A 15) (finA Try.prog Try.f26)
noncomputable def w13_rises_K2 (k : Nat) : Cont (ARes × Hp) := blkK 0 (w13_rises_K1 k)
noncomputable def w13_rises_K3 (k : Nat) (N116 M116 : Nat) : Cont (ARes × Hp) := itK (aloop (w13_rises_c k 116) (clrA w13_rises_A 116) (trimOf w13_rises_R 116) M116 N116) (clrA w13_rises_A 116) (trimOf w13_rises_R 116) M116 (w13_rises_K2 k)
noncomputable def w13_rises_K4 (k : Nat) (N116 M116 : Nat) : Cont (ARes × Hp) := seqK (w13_rises_c k 467) true (clrA w13_rises_A 467) (w13_rises_K3 k N116 M116)
noncomputable def w13_rises_K5 (k : Nat) (N116 M116 : Nat) : Cont (ARes × Hp) := blkK 1 (w13_rises_K4 k N116 M116)
noncomputable def w13_rises_K6 (k : Nat) (N116 M116 : Nat) : Cont (ARes × Hp) := blkK 2 (w13_rises_K5 k N116 M116)
noncomputable def w13_rises_p13 (k : Nat) (x0 : AV) (x18 : Bool) (h : Hp) : Option (ARes × Hp) := pnt (w13_rises_c k 13) ⟨w13_rises_T13 x0 x18, h⟩ (w13_rises_K0 k)
noncomputable def w13_rises_l116 (k : Nat) (N116 M116 : Nat) (x0 : AV) (x5 : Int) (h : Hp) : Option (ARes × Hp) := aloop (w13_rises_c k 116) (clrA w13_rises_A 116) (trimOf w13_rises_R 116) M116 N116 ⟨w13_rises_T116 x0 x5, h⟩ (w13_rises_K2 k)
noncomputable def w13_rises_l14924 (k : Nat) (N116 M116 : Nat) (N14924 M14924 : Nat) (x0 : AV) (x5 : Int) (x6 : Int) (x7 : Int) (h : Hp) : Option (ARes × Hp) := aloop (w13_rises_c k 14924) (clrA w13_rises_A 14924) (trimOf w13_rises_R 14924) M14924 N14924 ⟨w13_rises_T14924 x0 x5 x6 x7, h⟩ (w13_rises_K6 k N116 M116)
noncomputable def w13_rises_p15 (k : Nat)  (h : Hp) : Option (ARes × Hp) := pnt (w13_rises_c k 15) ⟨w13_rises_T15 , h⟩ (finA Try.prog Try.f26)
noncomputable def w13_rises_p467 (k : Nat) (N116 M116 : Nat) (x0 : AV) (x5 : Int) (h : Hp) : Option (ARes × Hp) := pnt (w13_rises_c k 467) ⟨w13_rises_T467 x0 x5, h⟩ (w13_rises_K3 k N116 M116)
theorem w13_rises_p13_eq (k : Nat) (x0 : AV) (x18 : Bool) (h : Hp) : w13_rises_p13 k x0 x18 h = bsp (x18) (some (.ret (.rv (.bool false)), h)) (w13_rises_l116 k k h.length x0 (0) (h)) := nrfl (by kernel_rfl)
theorem w13_rises_l116_eq (k : Nat) (N116 M116 : Nat) (x0 : AV) (x5 : Int) (h : Hp) : w13_rises_l116 k (N116 + 1) M116 x0 x5 h = lna x0 fun n10 => bsp ((decide (x5 < n10))) (w13_rises_l14924 k N116 M116 k h.length x0 (x5) (0) (x5) (h)) (w13_rises_p15 k  (h)) := nrfl (by kernel_rfl)
theorem w13_rises_l14924_eq (k : Nat) (N116 M116 : Nat) (N14924 M14924 : Nat) (x0 : AV) (x5 : Int) (x6 : Int) (x7 : Int) (h : Hp) : w13_rises_l14924 k N116 M116 (N14924 + 1) M14924 x0 x5 x6 x7 h = bsp ((decide (x7 ≥ 0))) (lna x0 fun n11 => bsp ((decide ((wri .i64 (x6 + 1)) > n11))) (some (.ret (.rv (.bool false)), h)) (ixa 1 x0 x7 fun p12 => ldi .i64 h p12 fun n13 => w13_rises_l14924 k N116 M116 N14924 M14924 x0 (x5) ((wri .i64 (x6 + 1))) (n13) (h))) (w13_rises_p467 k N116 M116 x0 (x5) (h)) := nrfl (by kernel_rfl)
theorem w13_rises_p15_eq (k : Nat)  (h : Hp) : w13_rises_p15 k  h = some (.ret (.rv (.bool true)), h) := nrfl (by kernel_rfl)
theorem w13_rises_p467_eq (k : Nat) (N116 M116 : Nat) (x0 : AV) (x5 : Int) (h : Hp) : w13_rises_p467 k N116 M116 x0 x5 h = w13_rises_l116 k N116 M116 x0 ((wri .i64 (x5 + 1))) (h) := nrfl (by kernel_rfl)
theorem w13_rises_eq (k : Nat) (x0 : AV) (x1 : AV) (h : Hp) : fnA Try.prog w13_rises_G w13_rises_A w13_rises_R k Try.f26 [x0, x1] h = nwc 1 (vcells x1) h fun p1 h2 => lna x0 fun n3 => pad p1 3 fun p4 => ldv h2 p4 fun v5 => lna v5 fun n6 => bsp ((n3 != n6)) (w13_rises_p13 k x0 (true) (h2)) (callP F_w13_ups h2 [x0] (fun r7 => asBool r7 fun b9 => w13_rises_p13 k x0 ((!b9)) (h2)) (fun q8 => some (.pan q8, h2))) := nrfl (by kernel_rfl)
theorem w13_rises_good : Good Try.prog w13_rises_G := by
  intro f c hc
  unfold w13_rises_G at hc
  split at hc
  · cases hc; exact good_w13_ups
  · cases hc
noncomputable def F_w13_rises : List RV → Option Res := fun rs => pureR (fnA Try.prog w13_rises_G w13_rises_A w13_rises_R big Try.f26 (rs.map .rv) [])
theorem good_w13_rises : GoodC Try.prog 26 (.pure F_w13_rises) := goodP mixed w13_rises_good (by kernel_rfl : Try.prog.funcs[26]? = some Try.f26) rfl rfl (fun rs r h => ⟨big, h⟩)

/-! gantry/gantrylaw13.blocks -/
abbrev id_w13_blocks : FuncId := 27
noncomputable def w13_blocks_G : FuncId → Option Callee := fun f => match f with
  | _ => none
def w13_blocks_A : Ann := [(7, []), (52, [0, 1, 5]), (841, [0, 1, 5, 24])]
def w13_blocks_R : List Nat := []
noncomputable def w13_blocks_c (k pos : Nat) : St → Cont (ARes × Hp) → Option (ARes × Hp) := acode Try.prog w13_blocks_G w13_blocks_A w13_blocks_R k (cdAt (pathOf pos) (bodyOf Try.f27)) pos
def w13_blocks_T52 (x0 : AV) (x1 : Int) (x5 : Int) : List AV := x0 :: (.rv (.int .i64 x1)) :: an 3 ((.rv (.int .i64 x5)) :: an 19 ([]))
def w13_blocks_T841 (x0 : AV) (x1 : Int) (x5 : Int) (x24 : Bool) : List AV := x0 :: (.rv (.int .i64 x1)) :: an 3 ((.rv (.int .i64 x5)) :: an 18 ((.rv (.bool x24)) :: []))
def w13_blocks_T7  : List AV := an 25 ([])
noncomputable def w13_blocks_K0 (k : Nat) : Cont (ARes × Hp) := seqK (w13_blocks_c k 7) true (clrA w13_blocks_A 7) (finA Try.prog Try.f27)
noncomputable def w13_blocks_K1 (k : Nat) : Cont (ARes × Hp) := blkK 0 (w13_blocks_K0 k)
noncomputable def w13_blocks_K2 (k : Nat) (N52 M52 : Nat) : Cont (ARes × Hp) := itK (aloop (w13_blocks_c k 52) (clrA w13_blocks_A 52) (trimOf w13_blocks_R 52) M52 N52) (clrA w13_blocks_A 52) (trimOf w13_blocks_R 52) M52 (w13_blocks_K1 k)
noncomputable def w13_blocks_K3 (k : Nat) (N52 M52 : Nat) : Cont (ARes × Hp) := seqK (w13_blocks_c k 211) false (clrA w13_blocks_A 211) (w13_blocks_K2 k N52 M52)
noncomputable def w13_blocks_K4 (k : Nat) (N52 M52 : Nat) : Cont (ARes × Hp) := blkK 1 (w13_blocks_K3 k N52 M52)
noncomputable def w13_blocks_l52 (k : Nat) (N52 M52 : Nat) (x0 : AV) (x1 : Int) (x5 : Int) (h : Hp) : Option (ARes × Hp) := aloop (w13_blocks_c k 52) (clrA w13_blocks_A 52) (trimOf w13_blocks_R 52) M52 N52 ⟨w13_blocks_T52 x0 x1 x5, h⟩ (w13_blocks_K1 k)
noncomputable def w13_blocks_p841 (k : Nat) (N52 M52 : Nat) (x0 : AV) (x1 : Int) (x5 : Int) (x24 : Bool) (h : Hp) : Option (ARes × Hp) := pnt (w13_blocks_c k 841) ⟨w13_blocks_T841 x0 x1 x5 x24, h⟩ (w13_blocks_K4 k N52 M52)
noncomputable def w13_blocks_p7 (k : Nat)  (h : Hp) : Option (ARes × Hp) := pnt (w13_blocks_c k 7) ⟨w13_blocks_T7 , h⟩ (finA Try.prog Try.f27)
theorem w13_blocks_l52_eq (k : Nat) (N52 M52 : Nat) (x0 : AV) (x1 : Int) (x5 : Int) (h : Hp) : w13_blocks_l52 k (N52 + 1) M52 x0 x1 x5 h = lna x0 fun n1 => bsp ((decide (x5 < n1))) (ixa 1 x0 x5 fun p2 => ldi .i64 h p2 fun n3 => bsp ((decide (n3 < 0))) (w13_blocks_p841 k N52 M52 x0 (x1) (x5) (true) (h)) (ixa 1 x0 x5 fun p4 => ldi .i64 h p4 fun n5 => w13_blocks_p841 k N52 M52 x0 (x1) (x5) ((decide (n5 ≥ x1))) (h))) (w13_blocks_p7 k  (h)) := nrfl (by kernel_rfl)
theorem w13_blocks_p841_eq (k : Nat) (N52 M52 : Nat) (x0 : AV) (x1 : Int) (x5 : Int) (x24 : Bool) (h : Hp) : w13_blocks_p841 k N52 M52 x0 x1 x5 x24 h = bsp (x24) (some (.ret (.rv (.bool false)), h)) (w13_blocks_l52 k N52 M52 x0 (x1) ((wri .i64 (x5 + 1))) (h)) := nrfl (by kernel_rfl)
theorem w13_blocks_p7_eq (k : Nat)  (h : Hp) : w13_blocks_p7 k  h = some (.ret (.rv (.bool true)), h) := nrfl (by kernel_rfl)
theorem w13_blocks_eq (k : Nat) (x0 : AV) (x1 : Int) (h : Hp) : fnA Try.prog w13_blocks_G w13_blocks_A w13_blocks_R k Try.f27 [x0, (.rv (.int .i64 x1))] h = w13_blocks_l52 k k h.length x0 (x1) (0) (h) := nrfl (by kernel_rfl)
theorem w13_blocks_good : Good Try.prog w13_blocks_G := fun f c hc => by cases hc
noncomputable def F_w13_blocks : List RV → Option Res := fun rs => pureR (fnA Try.prog w13_blocks_G w13_blocks_A w13_blocks_R big Try.f27 (rs.map .rv) [])
theorem good_w13_blocks : GoodC Try.prog 27 (.pure F_w13_blocks) := goodP mixed w13_blocks_good (by kernel_rfl : Try.prog.funcs[27]? = some Try.f27) rfl rfl (fun rs r h => ⟨big, h⟩)

/-! gantry/gantrylaw13.within -/
abbrev id_w13_within : FuncId := 30
noncomputable def w13_within_G : FuncId → Option Callee := fun f => match f with
  | 28 => some (.pure F_r0_In)
  | _ => none
def w13_within_A : Ann := [(31, []), (244, [1, 3, 4, 9, 10, 11]), (979, [1, 3, 4, 9, 10, 11]), (31308, [1, 3, 4, 9, 10, 11, 12, 13]), (125235, [1, 3, 4, 9, 10, 11, 12, 13]), (1001875, [1, 3, 4, 9, 10, 11, 12, 13, 62])]
def w13_within_R : List Nat := []
noncomputable def w13_within_c (k pos : Nat) : St → Cont (ARes × Hp) → Option (ARes × Hp) := acode Try.prog w13_within_G w13_within_A w13_within_R k (cdAt (pathOf pos) (bodyOf Try.f30)) pos
def w13_within_T244 (x1 : AV) (x3 : Int) (x4 : AV) (x9 : AV) (x10 : AV) (x11 : Int) : List AV := an 1 (x1 :: an 1 ((.rv (.int .i64 x3)) :: x4 :: an 4 (x9 :: x10 :: (.rv (.int .i64 x11)) :: an 64 ([]))))
def w13_within_T31308 (x1 : AV) (x3 : Int) (x4 : AV) (x9 : AV) (x10 : AV) (x11 : Int) (x12 : AV) (x13 : Int) : List AV := an 1 (x1 :: an 1 ((.rv (.int .i64 x3)) :: x4 :: an 4 (x9 :: x10 :: (.rv (.int .i64 x11)) :: x12 :: (.rv (.int .i64 x13)) :: an 62 ([]))))
def w13_within_T31  : List AV := an 76 ([])
def w13_within_T1001875 (x1 : AV) (x3 : Int) (x4 : AV) (x9 : AV) (x10 : AV) (x11 : Int) (x12 : AV) (x13 : Int) (x62 : Bool) : List AV := an 1 (x1 :: an 1 ((.rv (.int .i64 x3)) :: x4 :: an 4 (x9 :: x10 :: (.rv (.int .i64 x11)) :: x12 :: (.rv (.int .i64 x13)) :: an 48 ((.rv (.bool x62)) :: an 13 ([])))))
def w13_within_T979 (x1 : AV) (x3 : Int) (x4 : AV) (x9 : AV) (x10 : AV) (x11 : Int) : List AV := an 1 (x1 :: an 1 ((.rv (.int .i64 x3)) :: x4 :: an 4 (x9 :: x10 :: (.rv (.int .i64 x11)) :: an 64 ([]))))
def w13_within_T125235 (x1 : AV) (x3 : Int) (x4 : AV) (x9 : AV) (x10 : AV) (x11 : Int) (x12 : AV) (x13 : Int) : List AV := an 1 (x1 :: an 1 ((.rv (.int .i64 x3)) :: x4 :: an 4 (x9 :: x10 :: (.rv (.int .i64 x11)) :: x12 :: (.rv (.int .i64 x13)) :: an 62 ([]))))
noncomputable def w13_within_K0 (k : Nat) : Cont (ARes × Hp) := seqK (w13_within_c k 31) true (clrA w13_within_A 31) (finA Try.prog Try.f30)
noncomputable def w13_within_K1 (k : Nat) : Cont (ARes × Hp) := blkK 0 (w13_within_K0 k)
noncomputable def w13_within_K2 (k : Nat) (N244 M244 : Nat) : Cont (ARes × Hp) := itK (aloop (w13_within_c k 244) (clrA w13_within_A 244) (trimOf w13_within_R 244) M244 N244) (clrA w13_within_A 244) (trimOf w13_within_R 244) M244 (w13_within_K1 k)
noncomputable def w13_within_K3 (k : Nat) (N244 M244 : Nat) : Cont (ARes × Hp) := seqK (w13_within_c k 979) true (clrA w13_within_A 979) (w13_within_K2 k N244 M244)
noncomputable def w13_within_K4 (k : Nat) (N244 M244 : Nat) : Cont (ARes × Hp) := blkK 1 (w13_within_K3 k N244 M244)
noncomputable def w13_within_K5 (k : Nat) (N244 M244 : Nat) : Cont (ARes × Hp) := blkK 2 (w13_within_K4 k N244 M244)
noncomputable def w13_within_K6 (k : Nat) (N244 M244 : Nat) (N31308 M31308 : Nat) : Cont (ARes × Hp) := itK (aloop (w13_within_c k 31308) (clrA w13_within_A 31308) (trimOf w13_within_R 31308) M31308 N31308) (clrA w13_within_A 31308) (trimOf w13_within_R 31308) M31308 (w13_within_K5 k N244 M244)
noncomputable def w13_within_K7 (k : Nat) (N244 M244 : Nat) (N31308 M31308 : Nat) : Cont (ARes × Hp) := seqK (w13_within_c k 125235) true (clrA w13_within_A 125235) (w13_within_K6 k N244 M244 N31308 M31308)
noncomputable def w13_within_K8 (k : Nat) (N244 M244 : Nat) (N31308 M31308 : Nat) : Cont (ARes × Hp) := blkK 3 (w13_within_K7 k N244 M244 N31308 M31308)
noncomputable def w13_within_l244 (k : Nat) (N244 M244 : Nat) (x1 : AV) (x3 : Int) (x4 : AV) (x9 : AV) (x10 : AV) (x11 : Int) (h : Hp) : Option (ARes × Hp) := aloop (w13_within_c k 244) (clrA w13_within_A 244) (trimOf w13_within_R 244) M244 N244 ⟨w13_within_T244 x1 x3 x4 x9 x10 x11, h⟩ (w13_within_K1 k)
noncomputable def w13_within_l31308 (k : Nat) (N244 M244 : Nat) (N31308 M31308 : Nat) (x1 : AV) (x3 : Int) (x4 : AV) (x9 : AV) (x10 : AV) (x11 : Int) (x12 : AV) (x13 : Int) (h : Hp) : Option (ARes × Hp) := aloop (w13_within_c k 31308) (clrA w13_within_A 31308) (trimOf w13_within_R 31308) M31308 N31308 ⟨w13_within_T31308 x1 x3 x4 x9 x10 x11 x12 x13, h⟩ (w13_within_K5 k N244 M244)
noncomputable def w13_within_p31 (k : Nat)  (h : Hp) : Option (ARes × Hp) := pnt (w13_within_c k 31) ⟨w13_within_T31 , h⟩ (finA Try.prog Try.f30)
noncomputable def w13_within_p1001875 (k : Nat) (N244 M244 : Nat) (N31308 M31308 : Nat) (x1 : AV) (x3 : Int) (x4 : AV) (x9 : AV) (x10 : AV) (x11 : Int) (x12 : AV) (x13 : Int) (x62 : Bool) (h : Hp) : Option (ARes × Hp) := pnt (w13_within_c k 1001875) ⟨w13_within_T1001875 x1 x3 x4 x9 x10 x11 x12 x13 x62, h⟩ (w13_within_K8 k N244 M244 N31308 M31308)
noncomputable def w13_within_p979 (k : Nat) (N244 M244 : Nat) (x1 : AV) (x3 : Int) (x4 : AV) (x9 : AV) (x10 : AV) (x11 : Int) (h : Hp) : Option (ARes × Hp) := pnt (w13_within_c k 979) ⟨w13_within_T979 x1 x3 x4 x9 x10 x11, h⟩ (w13_within_K2 k N244 M244)
noncomputable def w13_within_p125235 (k : Nat) (N244 M244 : Nat) (N31308 M31308 : Nat) (x1 : AV) (x3 : Int) (x4 : AV) (x9 : AV) (x10 : AV) (x11 : Int) (x12 : AV) (x13 : Int) (h : Hp) : Option (ARes × Hp) := pnt (w13_within_c k 125235) ⟨w13_within_T125235 x1 x3 x4 x9 x10 x11 x12 x13, h⟩ (w13_within_K6 k N244 M244 N31308 M31308)
theorem w13_within_l244_eq (k : Nat) (N244 M244 : Nat) (x1 : AV) (x3 : Int) (x4 : AV) (x9 : AV) (x10 : AV) (x11 : Int) (h : Hp) : w13_within_l244 k (N244 + 1) M244 x1 x3 x4 x9 x10 x11 h = lna x10 fun n10 => bsp ((decide (x11 < n10))) (pad x4 3 fun p11 => ldv h p11 fun v12 => ixa 1 x10 x11 fun p13 => ldi .i64 h p13 fun n14 => ixa 6 v12 n14 fun p15 => pad p15 4 fun p16 => ldv h p16 fun v17 => w13_within_l31308 k N244 M244 k h.length x1 (x3) x4 x9 x10 (x11) v17 (0) (h)) (w13_within_p31 k  (h)) := nrfl (by kernel_rfl)
theorem w13_within_l31308_eq (k : Nat) (N244 M244 : Nat) (N31308 M31308 : Nat) (x1 : AV) (x3 : Int) (x4 : AV) (x9 : AV) (x10 : AV) (x11 : Int) (x12 : AV) (x13 : Int) (h : Hp) : w13_within_l31308 k N244 M244 (N31308 + 1) M31308 x1 x3 x4 x9 x10 x11 x12 x13 h = lna x12 fun n18 => bsp ((decide (x13 < n18))) (ixa 1 x12 x13 fun p19 => ldi .i64 h p19 fun n20 => bsp ((n20 == x3)) (some (.ret (.rv (.bool true)), h)) (ixa 1 x12 x13 fun p21 => ldi .i64 h p21 fun n22 => callP F_r0_In h [x1, (.rv (.int .i64 n22))] (fun r23 => asBool r23 fun b25 => bsp (b25) (ixa 1 x12 x13 fun p26 => ldi .i64 h p26 fun n27 => ixa 1 x9 n27 fun p28 => ldb h p28 fun b29 => w13_within_p1001875 k N244 M244 N31308 M31308 x1 (x3) x4 x9 x10 (x11) x12 (x13) ((!b29)) (h)) (w13_within_p1001875 k N244 M244 N31308 M31308 x1 (x3) x4 x9 x10 (x11) x12 (x13) (false) (h))) (fun q24 => some (.pan q24, h)))) (w13_within_p979 k N244 M244 x1 (x3) x4 x9 x10 (x11) (h)) := nrfl (by kernel_rfl)
theorem w13_within_p31_eq (k : Nat)  (h : Hp) : w13_within_p31 k  h = some (.ret (.rv (.bool false)), h) := nrfl (by kernel_rfl)
theorem w13_within_p1001875_eq (k : Nat) (N244 M244 : Nat) (N31308 M31308 : Nat) (x1 : AV) (x3 : Int) (x4 : AV) (x9 : AV) (x10 : AV) (x11 : Int) (x12 : AV) (x13 : Int) (x62 : Bool) (h : Hp) : w13_within_p1001875 k N244 M244 N31308 M31308 x1 x3 x4 x9 x10 x11 x12 x13 x62 h = bsp (x62) (ixa 1 x12 x13 fun p30 => ldi .i64 h p30 fun n31 => ixa 1 x9 n31 fun p32 => stv 1 h p32 (.rv (.bool true)) fun h33 => ixa 1 x12 x13 fun p34 => ldi .i64 h33 p34 fun n35 => bsl 1 1 [(.rv (.int .i64 0))] [(some (0, 1), (.rv (.int .i64 n35)))] h33 fun v36 h37 => apn 1 8 h37 x10 v36 fun v38 h39 => w13_within_p125235 k N244 M244 N31308 M31308 x1 (x3) x4 x9 v38 (x11) x12 (x13) (h39)) (w13_within_p125235 k N244 M244 N31308 M31308 x1 (x3) x4 x9 x10 (x11) x12 (x13) (h)) := nrfl (by kernel_rfl)
theorem w13_within_p979_eq (k : Nat) (N244 M244 : Nat) (x1 : AV) (x3 : Int) (x4 : AV) (x9 : AV) (x10 : AV) (x11 : Int) (h : Hp) : w13_within_p979 k N244 M244 x1 x3 x4 x9 x10 x11 h = w13_within_l244 k N244 M244 x1 (x3) x4 x9 x10 ((wri .i64 (x11 + 1))) (h) := nrfl (by kernel_rfl)
theorem w13_within_p125235_eq (k : Nat) (N244 M244 : Nat) (N31308 M31308 : Nat) (x1 : AV) (x3 : Int) (x4 : AV) (x9 : AV) (x10 : AV) (x11 : Int) (x12 : AV) (x13 : Int) (h : Hp) : w13_within_p125235 k N244 M244 N31308 M31308 x1 x3 x4 x9 x10 x11 x12 x13 h = w13_within_l31308 k N244 M244 N31308 M31308 x1 (x3) x4 x9 x10 (x11) x12 ((wri .i64 (x13 + 1))) (h) := nrfl (by kernel_rfl)
theorem w13_within_eq (k : Nat) (x0 : AV) (x1 : AV) (x2 : Int) (x3 : Int) (h : Hp) : fnA Try.prog w13_within_G w13_within_A w13_within_R k Try.f30 [x0, x1, (.rv (.int .i64 x2)), (.rv (.int .i64 x3))] h = nwc 1 (vcells x0) h fun p1 h2 => pad p1 3 fun p3 => ldv h2 p3 fun v4 => lna v4 fun n5 => mks 1 1 [(.rv (.bool false))] h2 n5 fun v6 h7 => bsl 1 1 [(.rv (.int .i64 0))] [(some (0, 1), (.rv (.int .i64 x2)))] h7 fun v8 h9 => w13_within_l244 k k h9.length x1 (x3) p1 v6 v8 (0) (h9) := nrfl (by kernel_rfl)
theorem w13_within_good : Good Try.prog w13_within_G := by
  intro f c hc
  unfold w13_within_G at hc
  split at hc
  · cases hc; exact good_r0_In
  · cases hc
noncomputable def F_w13_within : List RV → Option Res := fun rs => pureR (fnA Try.prog w13_within_G w13_within_A w13_within_R big Try.f30 (rs.map .rv) [])
theorem good_w13_within : GoodC Try.prog 30 (.pure F_w13_within) := goodP mixed w13_within_good (by kernel_rfl : Try.prog.funcs[30]? = some Try.f30) rfl rfl (fun rs r h => ⟨big, h⟩)

/-! gantry/gantrylaw13.FlowLoops -/
abbrev id_w13_FlowLoops : FuncId := 6
noncomputable def w13_FlowLoops_G : FuncId → Option Callee := fun f => match f with
  | 7 => some (.pure F_w12_Weight)
  | 9 => some (.pure F_r0_CopyCode)
  | 10 => some (.pure F_w13_num)
  | 11 => some (.pure F_r13_Flow)
  | 14 => some (.pure F_w13_wakes)
  | 15 => some (.pure F_flow_Doms)
  | 18 => some (.pure F_flow_Loops)
  | 26 => some (.pure F_w13_rises)
  | 27 => some (.pure F_w13_blocks)
  | 28 => some (.pure F_r0_In)
  | 29 => some (.pure F_r13_Dominates)
  | 30 => some (.pure F_w13_within)
  | _ => none
def w13_FlowLoops_A : Ann := [(7, []), (52, [0, 3]), (209, [0, 3, 18]), (211, [0, 3]), (13469, [0, 3, 4, 6, 62]), (107772, [0, 3, 4, 6, 8]), (431091, [0, 3, 4, 6, 8]), (3448721, [0, 3, 4, 6, 8, 145]), (3448723, [0, 3, 4, 6, 8]), (6897447, [0, 3, 4, 6, 8, 266]), (27589780, [0, 3, 4, 6, 8, 9]), (882872979, [0, 3, 4, 6, 8, 9, 208])]
def w13_FlowLoops_R : List Nat := []
noncomputable def w13_FlowLoops_c (k pos : Nat) : St → Cont (ARes × Hp) → Option (ARes × Hp) := acode Try.prog w13_FlowLoops_G w13_FlowLoops_A w13_FlowLoops_R k (cdAt (pathOf pos) (bodyOf Try.f6)) pos
def w13_FlowLoops_T52 (x0 : AV) (x3 : Int) : List AV := x0 :: an 2 ((.rv (.int .i64 x3)) :: an 264 ([]))
def w13_FlowLoops_T209 (x0 : AV) (x3 : Int) (x18 : Bool) : List AV := x0 :: an 2 ((.rv (.int .i64 x3)) :: an 14 ((.rv (.bool x18)) :: an 249 ([])))
def w13_FlowLoops_T13469 (x0 : AV) (x3 : Int) (x4 : AV) (x6 : AV) (x62 : Bool) : List AV := x0 :: an 2 ((.rv (.int .i64 x3)) :: x4 :: an 1 (x6 :: an 55 ((.rv (.bool x62)) :: an 205 ([]))))
def w13_FlowLoops_T7  : List AV := an 268 ([])
def w13_FlowLoops_T211 (x0 : AV) (x3 : Int) : List AV := x0 :: an 2 ((.rv (.int .i64 x3)) :: an 264 ([]))
def w13_FlowLoops_T107772 (x0 : AV) (x3 : Int) (x4 : AV) (x6 : AV) (x8 : Int) : List AV := x0 :: an 2 ((.rv (.int .i64 x3)) :: x4 :: an 1 (x6 :: an 1 ((.rv (.int .i64 x8)) :: an 259 ([]))))
def w13_FlowLoops_T3448721 (x0 : AV) (x3 : Int) (x4 : AV) (x6 : AV) (x8 : Int) (x145 : Bool) : List AV := x0 :: an 2 ((.rv (.int .i64 x3)) :: x4 :: an 1 (x6 :: an 1 ((.rv (.int .i64 x8)) :: an 136 ((.rv (.bool x145)) :: an 122 ([])))))
def w13_FlowLoops_T27589780 (x0 : AV) (x3 : Int) (x4 : AV) (x6 : AV) (x8 : Int) (x9 : Int) : List AV := x0 :: an 2 ((.rv (.int .i64 x3)) :: x4 :: an 1 (x6 :: an 1 ((.rv (.int .i64 x8)) :: (.rv (.int .i64 x9)) :: an 258 ([]))))
def w13_FlowLoops_T882872979 (x0 : AV) (x3 : Int) (x4 : AV) (x6 : AV) (x8 : Int) (x9 : Int) (x208 : Bool) : List AV := x0 :: an 2 ((.rv (.int .i64 x3)) :: x4 :: an 1 (x6 :: an 1 ((.rv (.int .i64 x8)) :: (.rv (.int .i64 x9)) :: an 198 ((.rv (.bool x208)) :: an 59 ([])))))
def w13_FlowLoops_T3448723 (x0 : AV) (x3 : Int) (x4 : AV) (x6 : AV) (x8 : Int) : List AV := x0 :: an 2 ((.rv (.int .i64 x3)) :: x4 :: an 1 (x6 :: an 1 ((.rv (.int .i64 x8)) :: an 259 ([]))))
def w13_FlowLoops_T6897447 (x0 : AV) (x3 : Int) (x4 : AV) (x6 : AV) (x8 : Int) (x266 : Bool) : List AV := x0 :: an 2 ((.rv (.int .i64 x3)) :: x4 :: an 1 (x6 :: an 1 ((.rv (.int .i64 x8)) :: an 257 ((.rv (.bool x266)) :: an 1 ([])))))
def w13_FlowLoops_T431091 (x0 : AV) (x3 : Int) (x4 : AV) (x6 : AV) (x8 : Int) : List AV := x0 :: an 2 ((.rv (.int .i64 x3)) :: x4 :: an 1 (x6 :: an 1 ((.rv (.int .i64 x8)) :: an 259 ([]))))
noncomputable def w13_FlowLoops_K0 (k : Nat) : Cont (ARes × Hp) := seqK (w13_FlowLoops_c k 7) true (clrA w13_FlowLoops_A 7) (finA Try.prog Try.f6)
noncomputable def w13_FlowLoops_K1 (k : Nat) : Cont (ARes × Hp) := blkK 0 (w13_FlowLoops_K0 k)
noncomputable def w13_FlowLoops_K2 (k : Nat) (N52 M52 : Nat) : Cont (ARes × Hp) := itK (aloop (w13_FlowLoops_c k 52) (clrA w13_FlowLoops_A 52) (trimOf w13_FlowLoops_R 52) M52 N52) (clrA w13_FlowLoops_A 52) (trimOf w13_FlowLoops_R 52) M52 (w13_FlowLoops_K1 k)
noncomputable def w13_FlowLoops_K3 (k : Nat) (N52 M52 : Nat) : Cont (ARes × Hp) := seqK (w13_FlowLoops_c k 105) false (clrA w13_FlowLoops_A 105) (w13_FlowLoops_K2 k N52 M52)
noncomputable def w13_FlowLoops_K4 (k : Nat) (N52 M52 : Nat) : Cont (ARes × Hp) := seqK (w13_FlowLoops_c k 211) true (clrA w13_FlowLoops_A 211) (w13_FlowLoops_K2 k N52 M52)
noncomputable def w13_FlowLoops_K5 (k : Nat) (N52 M52 : Nat) : Cont (ARes × Hp) := blkK 1 (w13_FlowLoops_K4 k N52 M52)
noncomputable def w13_FlowLoops_K6 (k : Nat) (N52 M52 : Nat) : Cont (ARes × Hp) := seqK (w13_FlowLoops_c k 6735) false (clrA w13_FlowLoops_A 6735) (w13_FlowLoops_K5 k N52 M52)
noncomputable def w13_FlowLoops_K7 (k : Nat) (N52 M52 : Nat) : Cont (ARes × Hp) := blkK 2 (w13_FlowLoops_K5 k N52 M52)
noncomputable def w13_FlowLoops_K8 (k : Nat) (N52 M52 : Nat) (N107772 M107772 : Nat) : Cont (ARes × Hp) := itK (aloop (w13_FlowLoops_c k 107772) (clrA w13_FlowLoops_A 107772) (trimOf w13_FlowLoops_R 107772) M107772 N107772) (clrA w13_FlowLoops_A 107772) (trimOf w13_FlowLoops_R 107772) M107772 (w13_FlowLoops_K7 k N52 M52)
noncomputable def w13_FlowLoops_K9 (k : Nat) (N52 M52 : Nat) (N107772 M107772 : Nat) : Cont (ARes × Hp) := seqK (w13_FlowLoops_c k 431091) true (clrA w13_FlowLoops_A 431091) (w13_FlowLoops_K8 k N52 M52 N107772 M107772)
noncomputable def w13_FlowLoops_K10 (k : Nat) (N52 M52 : Nat) (N107772 M107772 : Nat) : Cont (ARes × Hp) := blkK 3 (w13_FlowLoops_K9 k N52 M52 N107772 M107772)
noncomputable def w13_FlowLoops_K11 (k : Nat) (N52 M52 : Nat) (N107772 M107772 : Nat) : Cont (ARes × Hp) := seqK (w13_FlowLoops_c k 1724361) false (clrA w13_FlowLoops_A 1724361) (w13_FlowLoops_K10 k N52 M52 N107772 M107772)
noncomputable def w13_FlowLoops_K12 (k : Nat) (N52 M52 : Nat) (N107772 M107772 : Nat) : Cont (ARes × Hp) := seqK (w13_FlowLoops_c k 3448723) true (clrA w13_FlowLoops_A 3448723) (w13_FlowLoops_K10 k N52 M52 N107772 M107772)
noncomputable def w13_FlowLoops_K13 (k : Nat) (N52 M52 : Nat) (N107772 M107772 : Nat) : Cont (ARes × Hp) := blkK 4 (w13_FlowLoops_K12 k N52 M52 N107772 M107772)
noncomputable def w13_FlowLoops_K14 (k : Nat) (N52 M52 : Nat) (N107772 M107772 : Nat) (N27589780 M27589780 : Nat) : Cont (ARes × Hp) := itK (aloop (w13_FlowLoops_c k 27589780) (clrA w13_FlowLoops_A 27589780) (trimOf w13_FlowLoops_R 27589780) M27589780 N27589780) (clrA w13_FlowLoops_A 27589780) (trimOf w13_FlowLoops_R 27589780) M27589780 (w13_FlowLoops_K13 k N52 M52 N107772 M107772)
noncomputable def w13_FlowLoops_K15 (k : Nat) (N52 M52 : Nat) (N107772 M107772 : Nat) (N27589780 M27589780 : Nat) : Cont (ARes × Hp) := seqK (w13_FlowLoops_c k 110359123) false (clrA w13_FlowLoops_A 110359123) (w13_FlowLoops_K14 k N52 M52 N107772 M107772 N27589780 M27589780)
noncomputable def w13_FlowLoops_K16 (k : Nat) (N52 M52 : Nat) (N107772 M107772 : Nat) (N27589780 M27589780 : Nat) : Cont (ARes × Hp) := blkK 5 (w13_FlowLoops_K15 k N52 M52 N107772 M107772 N27589780 M27589780)
noncomputable def w13_FlowLoops_l52 (k : Nat) (N52 M52 : Nat) (x0 : AV) (x3 : Int) (h : Hp) : Option (ARes × Hp) := aloop (w13_FlowLoops_c k 52) (clrA w13_FlowLoops_A 52) (trimOf w13_FlowLoops_R 52) M52 N52 ⟨w13_FlowLoops_T52 x0 x3, h⟩ (w13_FlowLoops_K1 k)
noncomputable def w13_FlowLoops_p209 (k : Nat) (N52 M52 : Nat) (x0 : AV) (x3 : Int) (x18 : Bool) (h : Hp) : Option (ARes × Hp) := pnt (w13_FlowLoops_c k 209) ⟨w13_FlowLoops_T209 x0 x3 x18, h⟩ (w13_FlowLoops_K3 k N52 M52)
noncomputable def w13_FlowLoops_p13469 (k : Nat) (N52 M52 : Nat) (x0 : AV) (x3 : Int) (x4 : AV) (x6 : AV) (x62 : Bool) (h : Hp) : Option (ARes × Hp) := pnt (w13_FlowLoops_c k 13469) ⟨w13_FlowLoops_T13469 x0 x3 x4 x6 x62, h⟩ (w13_FlowLoops_K6 k N52 M52)
noncomputable def w13_FlowLoops_p7 (k : Nat)  (h : Hp) : Option (ARes × Hp) := pnt (w13_FlowLoops_c k 7) ⟨w13_FlowLoops_T7 , h⟩ (finA Try.prog Try.f6)
noncomputable def w13_FlowLoops_p211 (k : Nat) (N52 M52 : Nat) (x0 : AV) (x3 : Int) (h : Hp) : Option (ARes × Hp) := pnt (w13_FlowLoops_c k 211) ⟨w13_FlowLoops_T211 x0 x3, h⟩ (w13_FlowLoops_K2 k N52 M52)
noncomputable def w13_FlowLoops_l107772 (k : Nat) (N52 M52 : Nat) (N107772 M107772 : Nat) (x0 : AV) (x3 : Int) (x4 : AV) (x6 : AV) (x8 : Int) (h : Hp) : Option (ARes × Hp) := aloop (w13_FlowLoops_c k 107772) (clrA w13_FlowLoops_A 107772) (trimOf w13_FlowLoops_R 107772) M107772 N107772 ⟨w13_FlowLoops_T107772 x0 x3 x4 x6 x8, h⟩ (w13_FlowLoops_K7 k N52 M52)
noncomputable def w13_FlowLoops_p3448721 (k : Nat) (N52 M52 : Nat) (N107772 M107772 : Nat) (x0 : AV) (x3 : Int) (x4 : AV) (x6 : AV) (x8 : Int) (x145 : Bool) (h : Hp) : Option (ARes × Hp) := pnt (w13_FlowLoops_c k 3448721) ⟨w13_FlowLoops_T3448721 x0 x3 x4 x6 x8 x145, h⟩ (w13_FlowLoops_K11 k N52 M52 N107772 M107772)
noncomputable def w13_FlowLoops_l27589780 (k : Nat) (N52 M52 : Nat) (N107772 M107772 : Nat) (N27589780 M27589780 : Nat) (x0 : AV) (x3 : Int) (x4 : AV) (x6 : AV) (x8 : Int) (x9 : Int) (h : Hp) : Option (ARes × Hp) := aloop (w13_FlowLoops_c k 27589780) (clrA w13_FlowLoops_A 27589780) (trimOf w13_FlowLoops_R 27589780) M27589780 N27589780 ⟨w13_FlowLoops_T27589780 x0 x3 x4 x6 x8 x9, h⟩ (w13_FlowLoops_K13 k N52 M52 N107772 M107772)
noncomputable def w13_FlowLoops_p882872979 (k : Nat) (N52 M52 : Nat) (N107772 M107772 : Nat) (N27589780 M27589780 : Nat) (x0 : AV) (x3 : Int) (x4 : AV) (x6 : AV) (x8 : Int) (x9 : Int) (x208 : Bool) (h : Hp) : Option (ARes × Hp) := pnt (w13_FlowLoops_c k 882872979) ⟨w13_FlowLoops_T882872979 x0 x3 x4 x6 x8 x9 x208, h⟩ (w13_FlowLoops_K16 k N52 M52 N107772 M107772 N27589780 M27589780)
noncomputable def w13_FlowLoops_p3448723 (k : Nat) (N52 M52 : Nat) (N107772 M107772 : Nat) (x0 : AV) (x3 : Int) (x4 : AV) (x6 : AV) (x8 : Int) (h : Hp) : Option (ARes × Hp) := pnt (w13_FlowLoops_c k 3448723) ⟨w13_FlowLoops_T3448723 x0 x3 x4 x6 x8, h⟩ (w13_FlowLoops_K10 k N52 M52 N107772 M107772)
noncomputable def w13_FlowLoops_p6897447 (k : Nat) (N52 M52 : Nat) (N107772 M107772 : Nat) (x0 : AV) (x3 : Int) (x4 : AV) (x6 : AV) (x8 : Int) (x266 : Bool) (h : Hp) : Option (ARes × Hp) := pnt (w13_FlowLoops_c k 6897447) ⟨w13_FlowLoops_T6897447 x0 x3 x4 x6 x8 x266, h⟩ (w13_FlowLoops_K10 k N52 M52 N107772 M107772)
noncomputable def w13_FlowLoops_p431091 (k : Nat) (N52 M52 : Nat) (N107772 M107772 : Nat) (x0 : AV) (x3 : Int) (x4 : AV) (x6 : AV) (x8 : Int) (h : Hp) : Option (ARes × Hp) := pnt (w13_FlowLoops_c k 431091) ⟨w13_FlowLoops_T431091 x0 x3 x4 x6 x8, h⟩ (w13_FlowLoops_K8 k N52 M52 N107772 M107772)
theorem w13_FlowLoops_l52_eq (k : Nat) (N52 M52 : Nat) (x0 : AV) (x3 : Int) (h : Hp) : w13_FlowLoops_l52 k (N52 + 1) M52 x0 x3 h = lna x0 fun n1 => bsp ((decide (x3 < n1))) (w13_FlowLoops_p209 k N52 M52 x0 (x3) ((decide (x3 < 10))) (h)) (w13_FlowLoops_p209 k N52 M52 x0 (x3) (false) (h)) := nrfl (by kernel_rfl)
theorem w13_FlowLoops_p209_eq (k : Nat) (N52 M52 : Nat) (x0 : AV) (x3 : Int) (x18 : Bool) (h : Hp) : w13_FlowLoops_p209 k N52 M52 x0 x3 x18 h = bsp (x18) (ixa 4 x0 x3 fun p2 => ldg 4 h p2 fun v3 => bsl 4 1 [(.rv .nils), (.rv .nils), (.rv .nils), (.rv .nils)] [(some (0, 4), v3)] h fun v4 h5 => bld [(.rv .nils), (.rv .nils)] [(some (0, 1), v4)] fun v6 => callP F_w12_Weight h5 [v6, (.rv (.int .i64 2000))] (fun r7 => asInt .i64 r7 fun n9 => bsp ((decide (n9 > 2000))) (some (.ret (.rv (.bool true)), h5)) (ixa 4 x0 x3 fun p10 => ldg 4 h5 p10 fun v11 => callP F_r0_CopyCode h5 [v11] (fun r12 => callP F_flow_Loops h5 [r12] (fun r14 => xtr r14 0 fun v16 => xtr r14 1 fun v17 => asInt .i64 v17 fun n18 => ixa 4 x0 x3 fun p19 => ldg 4 h5 p19 fun v20 => callP F_r0_CopyCode h5 [v20] (fun r21 => callP F_flow_Doms h5 [r21] (fun r23 => xtr r23 0 fun v25 => xtr r23 1 fun v26 => asInt .i64 v26 fun n27 => callP F_w13_num h5 [(.rv (.int .i64 n18))] (fun r28 => asInt .i64 r28 fun n30 => bsp ((n30 != 0)) (w13_FlowLoops_p13469 k N52 M52 x0 (x3) v16 v25 (true) (h5)) (callP F_w13_num h5 [(.rv (.int .i64 n27))] (fun r31 => asInt .i64 r31 fun n33 => bsp ((n33 != 0)) (w13_FlowLoops_p13469 k N52 M52 x0 (x3) v16 v25 (true) (h5)) (ixa 4 x0 x3 fun p34 => ldg 4 h5 p34 fun v35 => callP F_r13_Flow h5 [v35] (fun r36 => asInt .i64 r36 fun n38 => w13_FlowLoops_p13469 k N52 M52 x0 (x3) v16 v25 ((n38 != 0)) (h5)) (fun q37 => some (.pan q37, h5)))) (fun q32 => some (.pan q32, h5)))) (fun q29 => some (.pan q29, h5))) (fun q24 => some (.pan q24, h5))) (fun q22 => some (.pan q22, h5))) (fun q15 => some (.pan q15, h5))) (fun q13 => some (.pan q13, h5)))) (fun q8 => some (.pan q8, h5))) (w13_FlowLoops_p7 k  (h)) := nrfl (by kernel_rfl)
theorem w13_FlowLoops_p13469_eq (k : Nat) (N52 M52 : Nat) (x0 : AV) (x3 : Int) (x4 : AV) (x6 : AV) (x62 : Bool) (h : Hp) : w13_FlowLoops_p13469 k N52 M52 x0 x3 x4 x6 x62 h = bsp (x62) (w13_FlowLoops_p211 k N52 M52 x0 (x3) (h)) (ixa 4 x0 x3 fun p39 => ldg 4 h p39 fun v40 => callP F_w13_rises h [x6, v40] (fun r41 => asBool r41 fun b43 => bsp ((!b43)) (some (.ret (.rv (.bool false)), h)) (w13_FlowLoops_l107772 k N52 M52 k h.length x0 (x3) x4 x6 (0) (h))) (fun q42 => some (.pan q42, h))) := nrfl (by kernel_rfl)
theorem w13_FlowLoops_p7_eq (k : Nat)  (h : Hp) : w13_FlowLoops_p7 k  h = callP F_w13_wakes h [] (fun r44 => asBool r44 fun b46 => some (.ret (.rv (.bool b46)), h)) (fun q45 => some (.pan q45, h)) := nrfl (by kernel_rfl)
theorem w13_FlowLoops_p211_eq (k : Nat) (N52 M52 : Nat) (x0 : AV) (x3 : Int) (h : Hp) : w13_FlowLoops_p211 k N52 M52 x0 x3 h = w13_FlowLoops_l52 k N52 M52 x0 ((wri .i64 (x3 + 1))) (h) := nrfl (by kernel_rfl)
theorem w13_FlowLoops_l107772_eq (k : Nat) (N52 M52 : Nat) (N107772 M107772 : Nat) (x0 : AV) (x3 : Int) (x4 : AV) (x6 : AV) (x8 : Int) (h : Hp) : w13_FlowLoops_l107772 k N52 M52 (N107772 + 1) M107772 x0 x3 x4 x6 x8 h = lna x4 fun n47 => bsp ((decide (x8 < n47))) (lna x6 fun n48 => ixa 4 x0 x3 fun p49 => pad p49 3 fun p50 => ldv h p50 fun v51 => lna v51 fun n52 => bsp ((n48 != n52)) (w13_FlowLoops_p3448721 k N52 M52 N107772 M107772 x0 (x3) x4 x6 (x8) (true) (h)) (ixa 4 x4 x8 fun p53 => pad p53 1 fun p54 => ldi .i64 h p54 fun n55 => lna x4 fun n56 => bsp ((decide (n55 ≥ n56))) (w13_FlowLoops_p3448721 k N52 M52 N107772 M107772 x0 (x3) x4 x6 (x8) (true) (h)) (ixa 4 x4 x8 fun p57 => pad p57 3 fun p58 => ldv h p58 fun v59 => lna x6 fun n60 => callP F_w13_blocks h [v59, (.rv (.int .i64 n60))] (fun r61 => asBool r61 fun b63 => bsp ((!b63)) (w13_FlowLoops_p3448721 k N52 M52 N107772 M107772 x0 (x3) x4 x6 (x8) (true) (h)) (ixa 4 x4 x8 fun p64 => pad p64 3 fun p65 => ldv h p65 fun v66 => ixa 4 x4 x8 fun p67 => pad p67 0 fun p68 => ldi .i64 h p68 fun n69 => callP F_r0_In h [v66, (.rv (.int .i64 n69))] (fun r70 => asBool r70 fun b72 => bsp ((!b72)) (w13_FlowLoops_p3448721 k N52 M52 N107772 M107772 x0 (x3) x4 x6 (x8) (true) (h)) (bsp ((decide (x8 > 0))) (ixa 4 x4 x8 fun p73 => pad p73 0 fun p74 => ldi .i64 h p74 fun n75 => ixa 4 x4 (wri .i64 (x8 - 1)) fun p76 => pad p76 0 fun p77 => ldi .i64 h p77 fun n78 => bsp ((decide (n75 ≤ n78))) (w13_FlowLoops_p3448721 k N52 M52 N107772 M107772 x0 (x3) x4 x6 (x8) (true) (h)) (ixa 4 x4 x8 fun p79 => pad p79 2 fun p80 => ldi .i64 h p80 fun n81 => w13_FlowLoops_p3448721 k N52 M52 N107772 M107772 x0 (x3) x4 x6 (x8) ((decide (n81 < 1))) (h))) (ixa 4 x4 x8 fun p82 => pad p82 2 fun p83 => ldi .i64 h p83 fun n84 => w13_FlowLoops_p3448721 k N52 M52 N107772 M107772 x0 (x3) x4 x6 (x8) ((decide (n84 < 1))) (h)))) (fun q71 => none))) (fun q62 => none)))) (w13_FlowLoops_p211 k N52 M52 x0 (x3) (h)) := nrfl (by kernel_rfl)
theorem w13_FlowLoops_p3448721_eq (k : Nat) (N52 M52 : Nat) (N107772 M107772 : Nat) (x0 : AV) (x3 : Int) (x4 : AV) (x6 : AV) (x8 : Int) (x145 : Bool) (h : Hp) : w13_FlowLoops_p3448721 k N52 M52 N107772 M107772 x0 x3 x4 x6 x8 x145 h = bsp (x145) (some (.ret (.rv (.bool false)), h)) (w13_FlowLoops_l27589780 k N52 M52 N107772 M107772 k h.length x0 (x3) x4 x6 (x8) (0) (h)) := nrfl (by kernel_rfl)
theorem w13_FlowLoops_l27589780_eq (k : Nat) (N52 M52 : Nat) (N107772 M107772 : Nat) (N27589780 M27589780 : Nat) (x0 : AV) (x3 : Int) (x4 : AV) (x6 : AV) (x8 : Int) (x9 : Int) (h : Hp) : w13_FlowLoops_l27589780 k N52 M52 N107772 M107772 (N27589780 + 1) M27589780 x0 x3 x4 x6 x8 x9 h = ixa 4 x4 x8 fun p85 => pad p85 3 fun p86 => ldv h p86 fun v87 => lna v87 fun n88 => bsp ((decide (x9 < n88))) (ixa 4 x4 x8 fun p89 => pad p89 3 fun p90 => ldv h p90 fun v91 => ixa 1 v91 x9 fun p92 => ldi .i64 h p92 fun n93 => ixa 4 x4 x8 fun p94 => pad p94 0 fun p95 => ldi .i64 h p95 fun n96 => callP F_r13_Dominates h [x6, (.rv (.int .i64 n96)), (.rv (.int .i64 n93))] (fun r97 => asBool r97 fun b99 => bsp ((!b99)) (w13_FlowLoops_p882872979 k N52 M52 N107772 M107772 N27589780 M27589780 x0 (x3) x4 x6 (x8) (x9) (true) (h)) (bsp ((decide (x9 > 0))) (ixa 4 x4 x8 fun p100 => pad p100 3 fun p101 => ldv h p101 fun v102 => ixa 1 v102 (wri .i64 (x9 - 1)) fun p103 => ldi .i64 h p103 fun n104 => bsp ((decide (n93 ≤ n104))) (w13_FlowLoops_p882872979 k N52 M52 N107772 M107772 N27589780 M27589780 x0 (x3) x4 x6 (x8) (x9) (true) (h)) (ixa 4 x0 x3 fun p105 => ldg 4 h p105 fun v106 => ixa 4 x4 x8 fun p107 => pad p107 3 fun p108 => ldv h p108 fun v109 => ixa 4 x4 x8 fun p110 => pad p110 0 fun p111 => ldi .i64 h p111 fun n112 => callP F_w13_within h [v106, v109, (.rv (.int .i64 n93)), (.rv (.int .i64 n112))] (fun r113 => asBool r113 fun b115 => w13_FlowLoops_p882872979 k N52 M52 N107772 M107772 N27589780 M27589780 x0 (x3) x4 x6 (x8) (x9) ((!b115)) (h)) (fun q114 => none))) (ixa 4 x0 x3 fun p116 => ldg 4 h p116 fun v117 => ixa 4 x4 x8 fun p118 => pad p118 3 fun p119 => ldv h p119 fun v120 => ixa 4 x4 x8 fun p121 => pad p121 0 fun p122 => ldi .i64 h p122 fun n123 => callP F_w13_within h [v117, v120, (.rv (.int .i64 n93)), (.rv (.int .i64 n123))] (fun r124 => asBool r124 fun b126 => w13_FlowLoops_p882872979 k N52 M52 N107772 M107772 N27589780 M27589780 x0 (x3) x4 x6 (x8) (x9) ((!b126)) (h)) (fun q125 => none)))) (fun q98 => none)) (w13_FlowLoops_p3448723 k N52 M52 N107772 M107772 x0 (x3) x4 x6 (x8) (h)) := nrfl (by kernel_rfl)
theorem w13_FlowLoops_p882872979_eq (k : Nat) (N52 M52 : Nat) (N107772 M107772 : Nat) (N27589780 M27589780 : Nat) (x0 : AV) (x3 : Int) (x4 : AV) (x6 : AV) (x8 : Int) (x9 : Int) (x208 : Bool) (h : Hp) : w13_FlowLoops_p882872979 k N52 M52 N107772 M107772 N27589780 M27589780 x0 x3 x4 x6 x8 x9 x208 h = bsp (x208) (some (.ret (.rv (.bool false)), h)) (w13_FlowLoops_l27589780 k N52 M52 N107772 M107772 N27589780 M27589780 x0 (x3) x4 x6 (x8) ((wri .i64 (x9 + 1))) (h)) := nrfl (by kernel_rfl)
theorem w13_FlowLoops_p3448723_eq (k : Nat) (N52 M52 : Nat) (N107772 M107772 : Nat) (x0 : AV) (x3 : Int) (x4 : AV) (x6 : AV) (x8 : Int) (h : Hp) : w13_FlowLoops_p3448723 k N52 M52 N107772 M107772 x0 x3 x4 x6 x8 h = ixa 4 x4 x8 fun p127 => pad p127 1 fun p128 => ldi .i64 h p128 fun n129 => bsp ((decide (n129 ≥ 0))) (ixa 4 x4 x8 fun p130 => pad p130 1 fun p131 => ldi .i64 h p131 fun n132 => ixa 4 x4 n132 fun p133 => pad p133 2 fun p134 => ldi .i64 h p134 fun n135 => ixa 4 x4 x8 fun p136 => pad p136 2 fun p137 => ldi .i64 h p137 fun n138 => bsp (((wri .i64 (n135 + 1)) != n138)) (w13_FlowLoops_p6897447 k N52 M52 N107772 M107772 x0 (x3) x4 x6 (x8) (true) (h)) (ixa 4 x4 x8 fun p139 => pad p139 1 fun p140 => ldi .i64 h p140 fun n141 => ixa 4 x4 n141 fun p142 => pad p142 3 fun p143 => ldv h p143 fun v144 => ixa 4 x4 x8 fun p145 => pad p145 0 fun p146 => ldi .i64 h p146 fun n147 => callP F_r0_In h [v144, (.rv (.int .i64 n147))] (fun r148 => asBool r148 fun b150 => bsp ((!b150)) (w13_FlowLoops_p6897447 k N52 M52 N107772 M107772 x0 (x3) x4 x6 (x8) (true) (h)) (ixa 4 x4 x8 fun p151 => pad p151 1 fun p152 => ldi .i64 h p152 fun n153 => bsp ((decide (n153 < 0))) (ixa 4 x4 x8 fun p154 => pad p154 2 fun p155 => ldi .i64 h p155 fun n156 => w13_FlowLoops_p6897447 k N52 M52 N107772 M107772 x0 (x3) x4 x6 (x8) ((n156 != 1)) (h)) (w13_FlowLoops_p6897447 k N52 M52 N107772 M107772 x0 (x3) x4 x6 (x8) (false) (h)))) (fun q149 => none))) (ixa 4 x4 x8 fun p157 => pad p157 1 fun p158 => ldi .i64 h p158 fun n159 => bsp ((decide (n159 < 0))) (ixa 4 x4 x8 fun p160 => pad p160 2 fun p161 => ldi .i64 h p161 fun n162 => w13_FlowLoops_p6897447 k N52 M52 N107772 M107772 x0 (x3) x4 x6 (x8) ((n162 != 1)) (h)) (w13_FlowLoops_p6897447 k N52 M52 N107772 M107772 x0 (x3) x4 x6 (x8) (false) (h))) := nrfl (by kernel_rfl)
theorem w13_FlowLoops_p6897447_eq (k : Nat) (N52 M52 : Nat) (N107772 M107772 : Nat) (x0 : AV) (x3 : Int) (x4 : AV) (x6 : AV) (x8 : Int) (x266 : Bool) (h : Hp) : w13_FlowLoops_p6897447 k N52 M52 N107772 M107772 x0 x3 x4 x6 x8 x266 h = bsp (x266) (some (.ret (.rv (.bool false)), h)) (w13_FlowLoops_p431091 k N52 M52 N107772 M107772 x0 (x3) x4 x6 (x8) (h)) := nrfl (by kernel_rfl)
theorem w13_FlowLoops_p431091_eq (k : Nat) (N52 M52 : Nat) (N107772 M107772 : Nat) (x0 : AV) (x3 : Int) (x4 : AV) (x6 : AV) (x8 : Int) (h : Hp) : w13_FlowLoops_p431091 k N52 M52 N107772 M107772 x0 x3 x4 x6 x8 h = w13_FlowLoops_l107772 k N52 M52 N107772 M107772 x0 (x3) x4 x6 ((wri .i64 (x8 + 1))) (h) := nrfl (by kernel_rfl)
theorem w13_FlowLoops_eq (k : Nat) (x0 : AV) (h : Hp) : fnA Try.prog w13_FlowLoops_G w13_FlowLoops_A w13_FlowLoops_R k Try.f6 [x0] h = w13_FlowLoops_l52 k k h.length x0 (0) (h) := nrfl (by kernel_rfl)
theorem w13_FlowLoops_good : Good Try.prog w13_FlowLoops_G := by
  intro f c hc
  unfold w13_FlowLoops_G at hc
  split at hc
  · cases hc; exact good_w12_Weight
  · cases hc; exact good_r0_CopyCode
  · cases hc; exact good_w13_num
  · cases hc; exact good_r13_Flow
  · cases hc; exact good_w13_wakes
  · cases hc; exact good_flow_Doms
  · cases hc; exact good_flow_Loops
  · cases hc; exact good_w13_rises
  · cases hc; exact good_w13_blocks
  · cases hc; exact good_r0_In
  · cases hc; exact good_r13_Dominates
  · cases hc; exact good_w13_within
  · cases hc
noncomputable def F_w13_FlowLoops : List RV → Option Res := fun rs => pureR (fnA Try.prog w13_FlowLoops_G w13_FlowLoops_A w13_FlowLoops_R big Try.f6 (rs.map .rv) [])
theorem good_w13_FlowLoops : GoodC Try.prog 6 (.pure F_w13_FlowLoops) := goodP mixed w13_FlowLoops_good (by kernel_rfl : Try.prog.funcs[6]? = some Try.f6) rfl rfl (fun rs r h => ⟨big, h⟩)
end Go.Proofs.Ytknphnmhjmejaaa
