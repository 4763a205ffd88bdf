/- The places and the unfolding equations of these functions (printed by gen.py of this repo): no conditions. -/
import Derived.Test.YtknphnmhjmejaaaGb4
namespace Go.Proofs.Ytknphnmhjmejaaa
set_option linter.unusedVariables false
set_option maxRecDepth 100000

/-! gantry/gantrylaw13.wakes -/
abbrev id_w13_wakes : FuncId := 14
noncomputable def w13_wakes_G : FuncId → Option Callee := fun f => match f with
  | 8 => some (.pure F_flow_Post)
  | 10 => some (.pure F_w13_num)
  | 20 => some (.pure F_r0_EqNumbers)
  | 41 => some (.pure F_w12_Small)
  | _ => none
def w13_wakes_A : Ann := [(15, [0])]
def w13_wakes_R : List Nat := []
noncomputable def w13_wakes_c (k pos : Nat) : St → Cont (ARes × Hp) → Option (ARes × Hp) := acode Try.prog w13_wakes_G w13_wakes_A w13_wakes_R k (cdAt (pathOf pos) (bodyOf Try.f14)) pos
def w13_wakes_T15 (x0 : Bool) : List AV := (.rv (.bool x0)) :: an 18 ([])
noncomputable def w13_wakes_p15 (k : Nat) (x0 : Bool) (h : Hp) : Option (ARes × Hp) := pnt (w13_wakes_c k 15) ⟨w13_wakes_T15 x0, h⟩ (finA Try.prog Try.f14)
theorem w13_wakes_p15_eq (k : Nat) (x0 : Bool) (h : Hp) : w13_wakes_p15 k x0 h = some (.ret (.rv (.bool x0)), h) := nrfl (by kernel_rfl)
theorem w13_wakes_eq (k : Nat)  (h : Hp) : fnA Try.prog w13_wakes_G w13_wakes_A w13_wakes_R k Try.f14 [] h = callP F_w12_Small h [(.rv (.int .i64 3))] (fun r1 => fldA 1 0 true r1 fun v3 => ixa 4 v3 0 fun p4 => ldg 4 h p4 fun v5 => callP F_flow_Post h [v5] (fun r6 => xtr r6 0 fun v8 => xtr r6 1 fun v9 => asInt .i64 v9 fun n10 => callP F_w13_num h [(.rv (.int .i64 n10))] (fun r11 => asInt .i64 r11 fun n13 => bsp ((n13 == 0)) (bsl 1 1 [(.rv (.int .i64 0))] [(some (0, 1), (.rv (.int .i64 0)))] h fun v14 h15 => callP F_r0_EqNumbers h15 [v8, v14] (fun r16 => asBool r16 fun b18 => w13_wakes_p15 k (b18) (h15)) (fun q17 => some (.pan q17, h15))) (w13_wakes_p15 k (false) (h))) (fun q12 => some (.pan q12, h))) (fun q7 => some (.pan q7, h))) (fun q2 => some (.pan q2, h)) := nrfl (by kernel_rfl)
theorem w13_wakes_good : Good Try.prog w13_wakes_G := by
  intro f c hc
  unfold w13_wakes_G at hc
  split at hc
  · cases hc; exact good_flow_Post
  · cases hc; exact good_w13_num
  · cases hc; exact good_r0_EqNumbers
  · cases hc; exact good_w12_Small
  · cases hc
noncomputable def F_w13_wakes : List RV → Option Res := fun rs => pureR (fnA Try.prog w13_wakes_G w13_wakes_A w13_wakes_R big Try.f14 (rs.map .rv) [])
theorem good_w13_wakes : GoodC Try.prog 14 (.pure F_w13_wakes) := goodP mixed w13_wakes_good (by kernel_rfl : Try.prog.funcs[14]? = some Try.f14) rfl rfl (fun rs r h => ⟨big, h⟩)

/-! gantry/gantrylaw13.FlowPost -/
abbrev id_w13_FlowPost : FuncId := 3
noncomputable def w13_FlowPost_G : FuncId → Option Callee := fun f => match f with
  | 7 => some (.pure F_w12_Weight)
  | 8 => some (.pure F_flow_Post)
  | 9 => some (.pure F_r0_CopyCode)
  | 10 => some (.pure F_w13_num)
  | 11 => some (.pure F_r13_Flow)
  | 12 => some (.pure F_r13_Hole)
  | 13 => some (.pure F_w13_reaches)
  | 14 => some (.pure F_w13_wakes)
  | _ => none
def w13_FlowPost_A : Ann := [(7, []), (52, [0, 3]), (209, [0, 3, 20]), (211, [0, 3]), (6733, [0, 3, 4, 50]), (13471, [0, 3, 4, 6]), (26943, [0, 3, 4, 6]), (107764, [0, 3, 4, 6, 7]), (107775, [0, 3, 4, 6, 9]), (215540, [0, 3, 4, 6, 8]), (215551, [0, 3, 195]), (862196, [0, 3, 4, 6, 9, 10]), (3448787, [0, 3, 4, 6, 9, 10]), (6897297, [0, 3, 4, 6, 8, 110]), (220722332, [0, 3, 4, 6, 9, 10, 11, 12]), (3531557321, [0, 3, 4, 6, 9, 10, 11, 12, 174])]
def w13_FlowPost_R : List Nat := []
noncomputable def w13_FlowPost_c (k pos : Nat) : St → Cont (ARes × Hp) → Option (ARes × Hp) := acode Try.prog w13_FlowPost_G w13_FlowPost_A w13_FlowPost_R k (cdAt (pathOf pos) (bodyOf Try.f3)) pos
noncomputable def w13_FlowPost_K0 (k : Nat) : Cont (ARes × Hp) := seqK (w13_FlowPost_c k 7) true (clrA w13_FlowPost_A 7) (finA Try.prog Try.f3)
noncomputable def w13_FlowPost_K1 (k : Nat) : Cont (ARes × Hp) := blkK 0 (w13_FlowPost_K0 k)
noncomputable def w13_FlowPost_K2 (k : Nat) (N52 M52 : Nat) : Cont (ARes × Hp) := itK (aloop (w13_FlowPost_c k 52) (clrA w13_FlowPost_A 52) (trimOf w13_FlowPost_R 52) M52 N52) (clrA w13_FlowPost_A 52) (trimOf w13_FlowPost_R 52) M52 (w13_FlowPost_K1 k)
noncomputable def w13_FlowPost_K3 (k : Nat) (N52 M52 : Nat) : Cont (ARes × Hp) := seqK (w13_FlowPost_c k 105) false (clrA w13_FlowPost_A 105) (w13_FlowPost_K2 k N52 M52)
noncomputable def w13_FlowPost_K4 (k : Nat) (N52 M52 : Nat) : Cont (ARes × Hp) := seqK (w13_FlowPost_c k 211) true (clrA w13_FlowPost_A 211) (w13_FlowPost_K2 k N52 M52)
noncomputable def w13_FlowPost_K5 (k : Nat) (N52 M52 : Nat) : Cont (ARes × Hp) := blkK 1 (w13_FlowPost_K4 k N52 M52)
noncomputable def w13_FlowPost_K6 (k : Nat) (N52 M52 : Nat) : Cont (ARes × Hp) := seqK (w13_FlowPost_c k 3367) false (clrA w13_FlowPost_A 3367) (w13_FlowPost_K5 k N52 M52)
noncomputable def w13_FlowPost_K7 (k : Nat) (N52 M52 : Nat) : Cont (ARes × Hp) := seqK (w13_FlowPost_c k 13471) true (clrA w13_FlowPost_A 13471) (w13_FlowPost_K5 k N52 M52)
noncomputable def w13_FlowPost_K8 (k : Nat) (N52 M52 : Nat) : Cont (ARes × Hp) := blkK 2 (w13_FlowPost_K7 k N52 M52)
noncomputable def w13_FlowPost_K9 (k : Nat) (N52 M52 : Nat) : Cont (ARes × Hp) := seqK (w13_FlowPost_c k 26943) true (clrA w13_FlowPost_A 26943) (w13_FlowPost_K5 k N52 M52)
noncomputable def w13_FlowPost_K10 (k : Nat) (N52 M52 : Nat) : Cont (ARes × Hp) := blkK 4 (w13_FlowPost_K9 k N52 M52)
noncomputable def w13_FlowPost_K11 (k : Nat) (N52 M52 : Nat) (N215540 M215540 : Nat) : Cont (ARes × Hp) := itK (aloop (w13_FlowPost_c k 215540) (clrA w13_FlowPost_A 215540) (trimOf w13_FlowPost_R 215540) M215540 N215540) (clrA w13_FlowPost_A 215540) (trimOf w13_FlowPost_R 215540) M215540 (w13_FlowPost_K10 k N52 M52)
noncomputable def w13_FlowPost_K12 (k : Nat) (N52 M52 : Nat) (N215540 M215540 : Nat) : Cont (ARes × Hp) := seqK (w13_FlowPost_c k 862163) false (clrA w13_FlowPost_A 862163) (w13_FlowPost_K11 k N52 M52 N215540 M215540)
noncomputable def w13_FlowPost_K13 (k : Nat) (N52 M52 : Nat) (N215540 M215540 : Nat) : Cont (ARes × Hp) := blkK 5 (w13_FlowPost_K12 k N52 M52 N215540 M215540)
noncomputable def w13_FlowPost_K14 (k : Nat) (N52 M52 : Nat) (N215540 M215540 : Nat) : Cont (ARes × Hp) := seqK (w13_FlowPost_c k 3448649) false (clrA w13_FlowPost_A 3448649) (w13_FlowPost_K13 k N52 M52 N215540 M215540)
noncomputable def w13_FlowPost_K15 (k : Nat) (N52 M52 : Nat) : Cont (ARes × Hp) := seqK (w13_FlowPost_c k 107775) true (clrA w13_FlowPost_A 107775) (w13_FlowPost_K5 k N52 M52)
noncomputable def w13_FlowPost_K16 (k : Nat) (N52 M52 : Nat) : Cont (ARes × Hp) := blkK 6 (w13_FlowPost_K15 k N52 M52)
noncomputable def w13_FlowPost_K17 (k : Nat) (N52 M52 : Nat) (N862196 M862196 : Nat) : Cont (ARes × Hp) := itK (aloop (w13_FlowPost_c k 862196) (clrA w13_FlowPost_A 862196) (trimOf w13_FlowPost_R 862196) M862196 N862196) (clrA w13_FlowPost_A 862196) (trimOf w13_FlowPost_R 862196) M862196 (w13_FlowPost_K16 k N52 M52)
noncomputable def w13_FlowPost_K18 (k : Nat) (N52 M52 : Nat) (N862196 M862196 : Nat) : Cont (ARes × Hp) := seqK (w13_FlowPost_c k 3448787) true (clrA w13_FlowPost_A 3448787) (w13_FlowPost_K17 k N52 M52 N862196 M862196)
noncomputable def w13_FlowPost_K19 (k : Nat) (N52 M52 : Nat) (N862196 M862196 : Nat) : Cont (ARes × Hp) := blkK 7 (w13_FlowPost_K18 k N52 M52 N862196 M862196)
noncomputable def w13_FlowPost_K20 (k : Nat) (N52 M52 : Nat) (N862196 M862196 : Nat) : Cont (ARes × Hp) := blkK 8 (w13_FlowPost_K19 k N52 M52 N862196 M862196)
noncomputable def w13_FlowPost_K21 (k : Nat) (N52 M52 : Nat) (N862196 M862196 : Nat) (N220722332 M220722332 : Nat) : Cont (ARes × Hp) := itK (aloop (w13_FlowPost_c k 220722332) (clrA w13_FlowPost_A 220722332) (trimOf w13_FlowPost_R 220722332) M220722332 N220722332) (clrA w13_FlowPost_A 220722332) (trimOf w13_FlowPost_R 220722332) M220722332 (w13_FlowPost_K20 k N52 M52 N862196 M862196)
noncomputable def w13_FlowPost_K22 (k : Nat) (N52 M52 : Nat) (N862196 M862196 : Nat) (N220722332 M220722332 : Nat) : Cont (ARes × Hp) := seqK (w13_FlowPost_c k 882889331) false (clrA w13_FlowPost_A 882889331) (w13_FlowPost_K21 k N52 M52 N862196 M862196 N220722332 M220722332)
noncomputable def w13_FlowPost_K23 (k : Nat) (N52 M52 : Nat) (N862196 M862196 : Nat) (N220722332 M220722332 : Nat) : Cont (ARes × Hp) := blkK 9 (w13_FlowPost_K22 k N52 M52 N862196 M862196 N220722332 M220722332)
def w13_FlowPost_T52 (x0 : AV) (x3 : Int) : List AV := x0 :: an 2 ((.rv (.int .i64 x3)) :: an 193 ([]))
noncomputable def w13_FlowPost_l52 (k : Nat) (N52 M52 : Nat) (x0 : AV) (x3 : Int) (h : Hp) : Option (ARes × Hp) := aloop (w13_FlowPost_c k 52) (clrA w13_FlowPost_A 52) (trimOf w13_FlowPost_R 52) M52 N52 ⟨w13_FlowPost_T52 x0 x3, h⟩ (w13_FlowPost_K1 k)
def w13_FlowPost_T209 (x0 : AV) (x3 : Int) (x20 : Bool) : List AV := x0 :: an 2 ((.rv (.int .i64 x3)) :: an 16 ((.rv (.bool x20)) :: an 176 ([])))
noncomputable def w13_FlowPost_p209 (k : Nat) (N52 M52 : Nat) (x0 : AV) (x3 : Int) (x20 : Bool) (h : Hp) : Option (ARes × Hp) := pnt (w13_FlowPost_c k 209) ⟨w13_FlowPost_T209 x0 x3 x20, h⟩ (w13_FlowPost_K3 k N52 M52)
def w13_FlowPost_T6733 (x0 : AV) (x3 : Int) (x4 : AV) (x50 : Bool) : List AV := x0 :: an 2 ((.rv (.int .i64 x3)) :: x4 :: an 45 ((.rv (.bool x50)) :: an 146 ([])))
noncomputable def w13_FlowPost_p6733 (k : Nat) (N52 M52 : Nat) (x0 : AV) (x3 : Int) (x4 : AV) (x50 : Bool) (h : Hp) : Option (ARes × Hp) := pnt (w13_FlowPost_c k 6733) ⟨w13_FlowPost_T6733 x0 x3 x4 x50, h⟩ (w13_FlowPost_K6 k N52 M52)
def w13_FlowPost_T7  : List AV := an 197 ([])
noncomputable def w13_FlowPost_p7 (k : Nat)  (h : Hp) : Option (ARes × Hp) := pnt (w13_FlowPost_c k 7) ⟨w13_FlowPost_T7 , h⟩ (finA Try.prog Try.f3)
def w13_FlowPost_T211 (x0 : AV) (x3 : Int) : List AV := x0 :: an 2 ((.rv (.int .i64 x3)) :: an 193 ([]))
noncomputable def w13_FlowPost_p211 (k : Nat) (N52 M52 : Nat) (x0 : AV) (x3 : Int) (h : Hp) : Option (ARes × Hp) := pnt (w13_FlowPost_c k 211) ⟨w13_FlowPost_T211 x0 x3, h⟩ (w13_FlowPost_K2 k N52 M52)
def w13_FlowPost_T107764 (x0 : AV) (x3 : Int) (x4 : AV) (x6 : AV) (x7 : Int) : List AV := x0 :: an 2 ((.rv (.int .i64 x3)) :: x4 :: an 1 (x6 :: (.rv (.int .i64 x7)) :: an 189 ([])))
noncomputable def w13_FlowPost_l107764 (k : Nat) (N52 M52 : Nat) (N107764 M107764 : Nat) (x0 : AV) (x3 : Int) (x4 : AV) (x6 : AV) (x7 : Int) (h : Hp) : Option (ARes × Hp) := aloop (w13_FlowPost_c k 107764) (clrA w13_FlowPost_A 107764) (trimOf w13_FlowPost_R 107764) M107764 N107764 ⟨w13_FlowPost_T107764 x0 x3 x4 x6 x7, h⟩ (w13_FlowPost_K8 k N52 M52)
def w13_FlowPost_T13471 (x0 : AV) (x3 : Int) (x4 : AV) (x6 : AV) : List AV := x0 :: an 2 ((.rv (.int .i64 x3)) :: x4 :: an 1 (x6 :: an 190 ([])))
noncomputable def w13_FlowPost_p13471 (k : Nat) (N52 M52 : Nat) (x0 : AV) (x3 : Int) (x4 : AV) (x6 : AV) (h : Hp) : Option (ARes × Hp) := pnt (w13_FlowPost_c k 13471) ⟨w13_FlowPost_T13471 x0 x3 x4 x6, h⟩ (w13_FlowPost_K5 k N52 M52)
def w13_FlowPost_T215540 (x0 : AV) (x3 : Int) (x4 : AV) (x6 : AV) (x8 : Int) : List AV := x0 :: an 2 ((.rv (.int .i64 x3)) :: x4 :: an 1 (x6 :: an 1 ((.rv (.int .i64 x8)) :: an 188 ([]))))
noncomputable def w13_FlowPost_l215540 (k : Nat) (N52 M52 : Nat) (N215540 M215540 : Nat) (x0 : AV) (x3 : Int) (x4 : AV) (x6 : AV) (x8 : Int) (h : Hp) : Option (ARes × Hp) := aloop (w13_FlowPost_c k 215540) (clrA w13_FlowPost_A 215540) (trimOf w13_FlowPost_R 215540) M215540 N215540 ⟨w13_FlowPost_T215540 x0 x3 x4 x6 x8, h⟩ (w13_FlowPost_K10 k N52 M52)
def w13_FlowPost_T6897297 (x0 : AV) (x3 : Int) (x4 : AV) (x6 : AV) (x8 : Int) (x110 : Bool) : List AV := x0 :: an 2 ((.rv (.int .i64 x3)) :: x4 :: an 1 (x6 :: an 1 ((.rv (.int .i64 x8)) :: an 101 ((.rv (.bool x110)) :: an 86 ([])))))
noncomputable def w13_FlowPost_p6897297 (k : Nat) (N52 M52 : Nat) (N215540 M215540 : Nat) (x0 : AV) (x3 : Int) (x4 : AV) (x6 : AV) (x8 : Int) (x110 : Bool) (h : Hp) : Option (ARes × Hp) := pnt (w13_FlowPost_c k 6897297) ⟨w13_FlowPost_T6897297 x0 x3 x4 x6 x8 x110, h⟩ (w13_FlowPost_K14 k N52 M52 N215540 M215540)
def w13_FlowPost_T26943 (x0 : AV) (x3 : Int) (x4 : AV) (x6 : AV) : List AV := x0 :: an 2 ((.rv (.int .i64 x3)) :: x4 :: an 1 (x6 :: an 190 ([])))
noncomputable def w13_FlowPost_p26943 (k : Nat) (N52 M52 : Nat) (x0 : AV) (x3 : Int) (x4 : AV) (x6 : AV) (h : Hp) : Option (ARes × Hp) := pnt (w13_FlowPost_c k 26943) ⟨w13_FlowPost_T26943 x0 x3 x4 x6, h⟩ (w13_FlowPost_K5 k N52 M52)
def w13_FlowPost_T862196 (x0 : AV) (x3 : Int) (x4 : AV) (x6 : AV) (x9 : Int) (x10 : Int) : List AV := x0 :: an 2 ((.rv (.int .i64 x3)) :: x4 :: an 1 (x6 :: an 2 ((.rv (.int .i64 x9)) :: (.rv (.int .i64 x10)) :: an 186 ([]))))
noncomputable def w13_FlowPost_l862196 (k : Nat) (N52 M52 : Nat) (N862196 M862196 : Nat) (x0 : AV) (x3 : Int) (x4 : AV) (x6 : AV) (x9 : Int) (x10 : Int) (h : Hp) : Option (ARes × Hp) := aloop (w13_FlowPost_c k 862196) (clrA w13_FlowPost_A 862196) (trimOf w13_FlowPost_R 862196) M862196 N862196 ⟨w13_FlowPost_T862196 x0 x3 x4 x6 x9 x10, h⟩ (w13_FlowPost_K16 k N52 M52)
def w13_FlowPost_T3448787 (x0 : AV) (x3 : Int) (x4 : AV) (x6 : AV) (x9 : Int) (x10 : Int) : List AV := x0 :: an 2 ((.rv (.int .i64 x3)) :: x4 :: an 1 (x6 :: an 2 ((.rv (.int .i64 x9)) :: (.rv (.int .i64 x10)) :: an 186 ([]))))
noncomputable def w13_FlowPost_p3448787 (k : Nat) (N52 M52 : Nat) (N862196 M862196 : Nat) (x0 : AV) (x3 : Int) (x4 : AV) (x6 : AV) (x9 : Int) (x10 : Int) (h : Hp) : Option (ARes × Hp) := pnt (w13_FlowPost_c k 3448787) ⟨w13_FlowPost_T3448787 x0 x3 x4 x6 x9 x10, h⟩ (w13_FlowPost_K17 k N52 M52 N862196 M862196)
def w13_FlowPost_T220722332 (x0 : AV) (x3 : Int) (x4 : AV) (x6 : AV) (x9 : Int) (x10 : Int) (x11 : AV) (x12 : Int) : List AV := x0 :: an 2 ((.rv (.int .i64 x3)) :: x4 :: an 1 (x6 :: an 2 ((.rv (.int .i64 x9)) :: (.rv (.int .i64 x10)) :: x11 :: (.rv (.int .i64 x12)) :: an 184 ([]))))
noncomputable def w13_FlowPost_l220722332 (k : Nat) (N52 M52 : Nat) (N862196 M862196 : Nat) (N220722332 M220722332 : Nat) (x0 : AV) (x3 : Int) (x4 : AV) (x6 : AV) (x9 : Int) (x10 : Int) (x11 : AV) (x12 : Int) (h : Hp) : Option (ARes × Hp) := aloop (w13_FlowPost_c k 220722332) (clrA w13_FlowPost_A 220722332) (trimOf w13_FlowPost_R 220722332) M220722332 N220722332 ⟨w13_FlowPost_T220722332 x0 x3 x4 x6 x9 x10 x11 x12, h⟩ (w13_FlowPost_K20 k N52 M52 N862196 M862196)
def w13_FlowPost_T107775 (x0 : AV) (x3 : Int) (x4 : AV) (x6 : AV) (x9 : Int) : List AV := x0 :: an 2 ((.rv (.int .i64 x3)) :: x4 :: an 1 (x6 :: an 2 ((.rv (.int .i64 x9)) :: an 187 ([]))))
noncomputable def w13_FlowPost_p107775 (k : Nat) (N52 M52 : Nat) (x0 : AV) (x3 : Int) (x4 : AV) (x6 : AV) (x9 : Int) (h : Hp) : Option (ARes × Hp) := pnt (w13_FlowPost_c k 107775) ⟨w13_FlowPost_T107775 x0 x3 x4 x6 x9, h⟩ (w13_FlowPost_K5 k N52 M52)
def w13_FlowPost_T3531557321 (x0 : AV) (x3 : Int) (x4 : AV) (x6 : AV) (x9 : Int) (x10 : Int) (x11 : AV) (x12 : Int) (x174 : Bool) : List AV := x0 :: an 2 ((.rv (.int .i64 x3)) :: x4 :: an 1 (x6 :: an 2 ((.rv (.int .i64 x9)) :: (.rv (.int .i64 x10)) :: x11 :: (.rv (.int .i64 x12)) :: an 161 ((.rv (.bool x174)) :: an 22 ([])))))
noncomputable def w13_FlowPost_p3531557321 (k : Nat) (N52 M52 : Nat) (N862196 M862196 : Nat) (N220722332 M220722332 : Nat) (x0 : AV) (x3 : Int) (x4 : AV) (x6 : AV) (x9 : Int) (x10 : Int) (x11 : AV) (x12 : Int) (x174 : Bool) (h : Hp) : Option (ARes × Hp) := pnt (w13_FlowPost_c k 3531557321) ⟨w13_FlowPost_T3531557321 x0 x3 x4 x6 x9 x10 x11 x12 x174, h⟩ (w13_FlowPost_K23 k N52 M52 N862196 M862196 N220722332 M220722332)
def w13_FlowPost_T215551 (x0 : AV) (x3 : Int) (x195 : Bool) : List AV := x0 :: an 2 ((.rv (.int .i64 x3)) :: an 191 ((.rv (.bool x195)) :: an 1 ([])))
noncomputable def w13_FlowPost_p215551 (k : Nat) (N52 M52 : Nat) (x0 : AV) (x3 : Int) (x195 : Bool) (h : Hp) : Option (ARes × Hp) := pnt (w13_FlowPost_c k 215551) ⟨w13_FlowPost_T215551 x0 x3 x195, h⟩ (w13_FlowPost_K5 k N52 M52)
theorem w13_FlowPost_l52_eq (k : Nat) (N52 M52 : Nat) (x0 : AV) (x3 : Int) (h : Hp) : w13_FlowPost_l52 k (N52 + 1) M52 x0 x3 h = lna x0 fun n1 => bsp ((decide (x3 < n1))) (w13_FlowPost_p209 k N52 M52 x0 (x3) ((decide (x3 < 10))) (h)) (w13_FlowPost_p209 k N52 M52 x0 (x3) (false) (h)) := nrfl (by kernel_rfl)
theorem w13_FlowPost_p209_eq (k : Nat) (N52 M52 : Nat) (x0 : AV) (x3 : Int) (x20 : Bool) (h : Hp) : w13_FlowPost_p209 k N52 M52 x0 x3 x20 h = bsp (x20) (ixa 4 x0 x3 fun p2 => ldg 4 h p2 fun v3 => bsl 4 1 [(.rv .nils), (.rv .nils), (.rv .nils), (.rv .nils)] [(some (0, 4), v3)] h fun v4 h5 => bld [(.rv .nils), (.rv .nils)] [(some (0, 1), v4)] fun v6 => callP F_w12_Weight h5 [v6, (.rv (.int .i64 2000))] (fun r7 => asInt .i64 r7 fun n9 => bsp ((decide (n9 > 2000))) (some (.ret (.rv (.bool true)), h5)) (ixa 4 x0 x3 fun p10 => ldg 4 h5 p10 fun v11 => callP F_r0_CopyCode h5 [v11] (fun r12 => callP F_flow_Post h5 [r12] (fun r14 => xtr r14 0 fun v16 => xtr r14 1 fun v17 => asInt .i64 v17 fun n18 => callP F_w13_num h5 [(.rv (.int .i64 n18))] (fun r19 => asInt .i64 r19 fun n21 => bsp ((n21 != 0)) (w13_FlowPost_p6733 k N52 M52 x0 (x3) v16 (true) (h5)) (ixa 4 x0 x3 fun p22 => ldg 4 h5 p22 fun v23 => callP F_r13_Flow h5 [v23] (fun r24 => asInt .i64 r24 fun n26 => w13_FlowPost_p6733 k N52 M52 x0 (x3) v16 ((n26 != 0)) (h5)) (fun q25 => some (.pan q25, h5)))) (fun q20 => some (.pan q20, h5))) (fun q15 => some (.pan q15, h5))) (fun q13 => some (.pan q13, h5)))) (fun q8 => some (.pan q8, h5))) (w13_FlowPost_p7 k  (h)) := nrfl (by kernel_rfl)
theorem w13_FlowPost_p6733_eq (k : Nat) (N52 M52 : Nat) (x0 : AV) (x3 : Int) (x4 : AV) (x50 : Bool) (h : Hp) : w13_FlowPost_p6733 k N52 M52 x0 x3 x4 x50 h = bsp (x50) (w13_FlowPost_p211 k N52 M52 x0 (x3) (h)) (ixa 4 x0 x3 fun p27 => pad p27 3 fun p28 => ldv h p28 fun v29 => lna v29 fun n30 => mks 1 8 [(.rv (.int .i64 0))] h n30 fun v31 h32 => w13_FlowPost_l107764 k N52 M52 k h32.length x0 (x3) x4 v31 (0) (h32)) := nrfl (by kernel_rfl)
theorem w13_FlowPost_p7_eq (k : Nat)  (h : Hp) : w13_FlowPost_p7 k  h = callP F_w13_wakes h [] (fun r33 => asBool r33 fun b35 => some (.ret (.rv (.bool b35)), h)) (fun q34 => some (.pan q34, h)) := nrfl (by kernel_rfl)
theorem w13_FlowPost_p211_eq (k : Nat) (N52 M52 : Nat) (x0 : AV) (x3 : Int) (h : Hp) : w13_FlowPost_p211 k N52 M52 x0 x3 h = w13_FlowPost_l52 k N52 M52 x0 ((wri .i64 (x3 + 1))) (h) := nrfl (by kernel_rfl)
theorem w13_FlowPost_l107764_eq (k : Nat) (N52 M52 : Nat) (N107764 M107764 : Nat) (x0 : AV) (x3 : Int) (x4 : AV) (x6 : AV) (x7 : Int) (h : Hp) : w13_FlowPost_l107764 k N52 M52 (N107764 + 1) M107764 x0 x3 x4 x6 x7 h = lna x6 fun n36 => bsp ((decide (x7 < n36))) (ixa 1 x6 x7 fun p37 => stv 1 h p37 (.rv (.int .i64 (-1))) fun h38 => w13_FlowPost_l107764 k N52 M52 N107764 M107764 x0 (x3) x4 x6 ((wri .i64 (x7 + 1))) (h38)) (w13_FlowPost_p13471 k N52 M52 x0 (x3) x4 x6 (h)) := nrfl (by kernel_rfl)
theorem w13_FlowPost_p13471_eq (k : Nat) (N52 M52 : Nat) (x0 : AV) (x3 : Int) (x4 : AV) (x6 : AV) (h : Hp) : w13_FlowPost_p13471 k N52 M52 x0 x3 x4 x6 h = w13_FlowPost_l215540 k N52 M52 k h.length x0 (x3) x4 x6 (0) (h) := nrfl (by kernel_rfl)
theorem w13_FlowPost_l215540_eq (k : Nat) (N52 M52 : Nat) (N215540 M215540 : Nat) (x0 : AV) (x3 : Int) (x4 : AV) (x6 : AV) (x8 : Int) (h : Hp) : w13_FlowPost_l215540 k N52 M52 (N215540 + 1) M215540 x0 x3 x4 x6 x8 h = lna x4 fun n39 => bsp ((decide (x8 < n39))) (ixa 1 x4 x8 fun p40 => ldi .i64 h p40 fun n41 => bsp ((decide (n41 < 0))) (w13_FlowPost_p6897297 k N52 M52 N215540 M215540 x0 (x3) x4 x6 (x8) (true) (h)) (ixa 1 x4 x8 fun p42 => ldi .i64 h p42 fun n43 => lna x6 fun n44 => bsp ((decide (n43 ≥ n44))) (w13_FlowPost_p6897297 k N52 M52 N215540 M215540 x0 (x3) x4 x6 (x8) (true) (h)) (ixa 1 x4 x8 fun p45 => ldi .i64 h p45 fun n46 => ixa 1 x6 n46 fun p47 => ldi .i64 h p47 fun n48 => bsp ((decide (n48 ≥ 0))) (w13_FlowPost_p6897297 k N52 M52 N215540 M215540 x0 (x3) x4 x6 (x8) (true) (h)) (ixa 4 x0 x3 fun p49 => pad p49 3 fun p50 => ldv h p50 fun v51 => ixa 1 x4 x8 fun p52 => ldi .i64 h p52 fun n53 => ixa 6 v51 n53 fun p54 => ldg 6 h p54 fun v55 => callP F_r13_Hole h [v55] (fun r56 => asBool r56 fun b58 => w13_FlowPost_p6897297 k N52 M52 N215540 M215540 x0 (x3) x4 x6 (x8) (b58) (h)) (fun q57 => none))))) (w13_FlowPost_p26943 k N52 M52 x0 (x3) x4 x6 (h)) := nrfl (by kernel_rfl)
theorem w13_FlowPost_p6897297_eq (k : Nat) (N52 M52 : Nat) (N215540 M215540 : Nat) (x0 : AV) (x3 : Int) (x4 : AV) (x6 : AV) (x8 : Int) (x110 : Bool) (h : Hp) : w13_FlowPost_p6897297 k N52 M52 N215540 M215540 x0 x3 x4 x6 x8 x110 h = bsp (x110) (some (.ret (.rv (.bool false)), h)) (ixa 1 x4 x8 fun p59 => ldi .i64 h p59 fun n60 => ixa 1 x6 n60 fun p61 => stv 1 h p61 (.rv (.int .i64 x8)) fun h62 => w13_FlowPost_l215540 k N52 M52 N215540 M215540 x0 (x3) x4 x6 ((wri .i64 (x8 + 1))) (h62)) := nrfl (by kernel_rfl)
theorem w13_FlowPost_p26943_eq (k : Nat) (N52 M52 : Nat) (x0 : AV) (x3 : Int) (x4 : AV) (x6 : AV) (h : Hp) : w13_FlowPost_p26943 k N52 M52 x0 x3 x4 x6 h = w13_FlowPost_l862196 k N52 M52 k h.length x0 (x3) x4 x6 (0) (0) (h) := nrfl (by kernel_rfl)
theorem w13_FlowPost_l862196_eq (k : Nat) (N52 M52 : Nat) (N862196 M862196 : Nat) (x0 : AV) (x3 : Int) (x4 : AV) (x6 : AV) (x9 : Int) (x10 : Int) (h : Hp) : w13_FlowPost_l862196 k N52 M52 (N862196 + 1) M862196 x0 x3 x4 x6 x9 x10 h = lna x6 fun n63 => bsp ((decide (x10 < n63))) (ixa 4 x0 x3 fun p64 => pad p64 3 fun p65 => ldv h p65 fun v66 => ixa 6 v66 x10 fun p67 => ldg 6 h p67 fun v68 => callP F_r13_Hole h [v68] (fun r69 => asBool r69 fun b71 => bsp (b71) (w13_FlowPost_p3448787 k N52 M52 N862196 M862196 x0 (x3) x4 x6 ((wri .i64 (x9 + 1))) (x10) (h)) (ixa 4 x0 x3 fun p72 => pad p72 3 fun p73 => ldv h p73 fun v74 => ixa 6 v74 x10 fun p75 => pad p75 4 fun p76 => ldv h p76 fun v77 => w13_FlowPost_l220722332 k N52 M52 N862196 M862196 k h.length x0 (x3) x4 x6 (x9) (x10) v77 (0) (h))) (fun q70 => some (.pan q70, h))) (w13_FlowPost_p107775 k N52 M52 x0 (x3) x4 x6 (x9) (h)) := nrfl (by kernel_rfl)
theorem w13_FlowPost_p3448787_eq (k : Nat) (N52 M52 : Nat) (N862196 M862196 : Nat) (x0 : AV) (x3 : Int) (x4 : AV) (x6 : AV) (x9 : Int) (x10 : Int) (h : Hp) : w13_FlowPost_p3448787 k N52 M52 N862196 M862196 x0 x3 x4 x6 x9 x10 h = w13_FlowPost_l862196 k N52 M52 N862196 M862196 x0 (x3) x4 x6 (x9) ((wri .i64 (x10 + 1))) (h) := nrfl (by kernel_rfl)
theorem w13_FlowPost_l220722332_eq (k : Nat) (N52 M52 : Nat) (N862196 M862196 : Nat) (N220722332 M220722332 : Nat) (x0 : AV) (x3 : Int) (x4 : AV) (x6 : AV) (x9 : Int) (x10 : Int) (x11 : AV) (x12 : Int) (h : Hp) : w13_FlowPost_l220722332 k N52 M52 N862196 M862196 (N220722332 + 1) M220722332 x0 x3 x4 x6 x9 x10 x11 x12 h = lna x11 fun n78 => bsp ((decide (x12 < n78))) (ixa 1 x11 x12 fun p79 => ldi .i64 h p79 fun n80 => ixa 1 x6 n80 fun p81 => ldi .i64 h p81 fun n82 => ixa 1 x6 x10 fun p83 => ldi .i64 h p83 fun n84 => bsp ((decide (n82 > n84))) (ixa 4 x0 x3 fun p85 => ldg 4 h p85 fun v86 => ixa 1 x11 x12 fun p87 => ldi .i64 h p87 fun n88 => callP F_w13_reaches h [v86, (.rv (.int .i64 n88)), (.rv (.int .i64 x10))] (fun r89 => asBool r89 fun b91 => w13_FlowPost_p3531557321 k N52 M52 N862196 M862196 N220722332 M220722332 x0 (x3) x4 x6 (x9) (x10) x11 (x12) ((!b91)) (h)) (fun q90 => none)) (w13_FlowPost_p3531557321 k N52 M52 N862196 M862196 N220722332 M220722332 x0 (x3) x4 x6 (x9) (x10) x11 (x12) (false) (h))) (w13_FlowPost_p3448787 k N52 M52 N862196 M862196 x0 (x3) x4 x6 (x9) (x10) (h)) := nrfl (by kernel_rfl)
theorem w13_FlowPost_p107775_eq (k : Nat) (N52 M52 : Nat) (x0 : AV) (x3 : Int) (x4 : AV) (x6 : AV) (x9 : Int) (h : Hp) : w13_FlowPost_p107775 k N52 M52 x0 x3 x4 x6 x9 h = lna x4 fun n92 => lna x6 fun n93 => bsp (((wri .i64 (n92 + x9)) != n93)) (w13_FlowPost_p215551 k N52 M52 x0 (x3) (true) (h)) (lna x4 fun n94 => bsp ((n94 == 0)) (w13_FlowPost_p215551 k N52 M52 x0 (x3) (true) (h)) (lna x4 fun n95 => ixa 1 x4 (wri .i64 (n95 - 1)) fun p96 => ldi .i64 h p96 fun n97 => w13_FlowPost_p215551 k N52 M52 x0 (x3) ((n97 != 0)) (h))) := nrfl (by kernel_rfl)
theorem w13_FlowPost_p3531557321_eq (k : Nat) (N52 M52 : Nat) (N862196 M862196 : Nat) (N220722332 M220722332 : Nat) (x0 : AV) (x3 : Int) (x4 : AV) (x6 : AV) (x9 : Int) (x10 : Int) (x11 : AV) (x12 : Int) (x174 : Bool) (h : Hp) : w13_FlowPost_p3531557321 k N52 M52 N862196 M862196 N220722332 M220722332 x0 x3 x4 x6 x9 x10 x11 x12 x174 h = bsp (x174) (some (.ret (.rv (.bool false)), h)) (w13_FlowPost_l220722332 k N52 M52 N862196 M862196 N220722332 M220722332 x0 (x3) x4 x6 (x9) (x10) x11 ((wri .i64 (x12 + 1))) (h)) := nrfl (by kernel_rfl)
theorem w13_FlowPost_p215551_eq (k : Nat) (N52 M52 : Nat) (x0 : AV) (x3 : Int) (x195 : Bool) (h : Hp) : w13_FlowPost_p215551 k N52 M52 x0 x3 x195 h = bsp (x195) (some (.ret (.rv (.bool false)), h)) (w13_FlowPost_p211 k N52 M52 x0 (x3) (h)) := nrfl (by kernel_rfl)
theorem w13_FlowPost_eq (k : Nat) (x0 : AV) (h : Hp) : fnA Try.prog w13_FlowPost_G w13_FlowPost_A w13_FlowPost_R k Try.f3 [x0] h = w13_FlowPost_l52 k k h.length x0 (0) (h) := nrfl (by kernel_rfl)
theorem w13_FlowPost_good : Good Try.prog w13_FlowPost_G := by
  intro f c hc
  unfold w13_FlowPost_G at hc
  split at hc
  · cases hc; exact good_w12_Weight
  · cases hc; exact good_flow_Post
  · cases hc; exact good_r0_CopyCode
  · cases hc; exact good_w13_num
  · cases hc; exact good_r13_Flow
  · cases hc; exact good_r13_Hole
  · cases hc; exact good_w13_reaches
  · cases hc; exact good_w13_wakes
  · cases hc
noncomputable def F_w13_FlowPost : List RV → Option Res := fun rs => pureR (fnA Try.prog w13_FlowPost_G w13_FlowPost_A w13_FlowPost_R big Try.f3 (rs.map .rv) [])
theorem good_w13_FlowPost : GoodC Try.prog 3 (.pure F_w13_FlowPost) := goodP mixed w13_FlowPost_good (by kernel_rfl : Try.prog.funcs[3]? = some Try.f3) rfl rfl (fun rs r h => ⟨big, h⟩)
end Go.Proofs.Ytknphnmhjmejaaa
